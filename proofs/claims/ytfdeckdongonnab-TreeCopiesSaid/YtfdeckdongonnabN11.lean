/-
  Tree, the plain law of a copy: arenas that are one but for where their lists lie.
-/
import Derived.Test.YtfdeckdongonnabN1
import Derived.Test.YtfdeckdongonnabM3
import Derived.Test.YtfdeckdongonnabSepW
import Derived.Test.YtfdeckdongonnabB3
import Derived.Test.YtfdeckdongonnabB2
import Derived.Test.YtfdeckdongonnabN2
import Derived.Test.YtfdeckdongonnabN7
namespace Go.Tr
open Go.Sl Go.Ls
def Cel.key (c : Cel) : Int × Bool × Int × List Int := (c.id, c.grp, c.par, c.kids)
structure Ar.Like (A C : Ar) : Prop where
  key : C.cells.map Cel.key = A.cells.map Cel.key
  free : C.free = A.free
  at_ : C.at_ = A.at_
  cnt : C.cnt = A.cnt
theorem keys_len {l k : List Cel} (h : l.map Cel.key = k.map Cel.key) : l.length = k.length := by
  have := congrArg List.length h
  simpa using this
theorem keys_get {l k : List Cel} (h : l.map Cel.key = k.map Cel.key) (j : Nat) (hj : j < k.length) : ∃ hj' : j < l.length, l[j].id = k[j].id ∧ l[j].grp = k[j].grp ∧ l[j].par = k[j].par ∧ l[j].kids = k[j].kids := by
  have hl := keys_len h
  refine ⟨by omega, ?_⟩
  have h1 : (l.map Cel.key)[j]? = (k.map Cel.key)[j]? := by rw [h]
  rw [List.getElem?_map, List.getElem?_map, List.getElem?_eq_getElem (by omega), List.getElem?_eq_getElem hj] at h1
  simp only [Option.map_some, Option.some.injEq, Cel.key, Prod.mk.injEq] at h1
  exact h1
namespace Ar.Like
variable {A C : Ar}
theorem mem (h : Ar.Like A C) (c : Cel) (hc : c ∈ C.cells) : ∃ d ∈ A.cells, c.id = d.id ∧ c.par = d.par ∧ c.kids = d.kids := by
  obtain ⟨j, hj, rfl⟩ := List.getElem_of_mem hc
  obtain ⟨_, a, _, b, d⟩ := keys_get h.key j (by have := keys_len h.key; omega)
  exact ⟨_, List.getElem_mem (by have := keys_len h.key; omega), a, b, d⟩
theorem opt (h : Ar.Like A C) (j : Nat) : (C.cells[j]?).map Cel.key = (A.cells[j]?).map Cel.key := by
  rw [← List.getElem?_map, ← List.getElem?_map, h.key]
theorem kids (h : Ar.Like A C) (j : Nat) : (C.cells[j]?).map Cel.kids = (A.cells[j]?).map Cel.kids := by
  have := congrArg (Option.map fun k => k.2.2.2) (h.opt j)
  simpa [Option.map_map, Function.comp_def, Cel.key] using this
theorem idAt (h : Ar.Like A C) (j : Nat) : C.idAt j = A.idAt j := by
  have := congrArg (Option.map fun k => k.1) (h.opt j)
  have h2 : (C.cells[j]?).map Cel.id = (A.cells[j]?).map Cel.id := by simpa [Option.map_map, Function.comp_def, Cel.key] using this
  rw [Ar.idAt, Ar.idAt, h2]
theorem post (h : Ar.Like A C) : ∀ (nd : Nd) (i : Nat), Tr.post C i nd = Tr.post A i nd := by
  intro nd
  refine Nd.rec (motive_1 := fun nd => ∀ i, Tr.post C i nd = Tr.post A i nd) (motive_2 := fun ns => ∀ l, Tr.posts C l ns = Tr.posts A l ns) ?_ ?_ ?_ nd
  · intro id g ks ih i
    rw [Tr.post, Tr.post, h.kids, ih]
  · intro l
    cases l <;> rfl
  · intro n ns a b l
    cases l with
    | nil => rfl
    | cons k l => rw [Tr.posts, Tr.posts, a, b]
theorem tr (h : Ar.Like A C) {nd : Nd} {p : Int} {i : Nat} (ht : Tr A p i nd) : Tr C p i nd := by
  refine (Tr.ind (A := A) (P := fun p i nd => Tr C p i nd) (Ps := fun p l ns => Trs C p l ns) ?_ ?_ ?_).1 nd p i ht
  · intro p i nd hi a b c _ hk
    obtain ⟨hj, e1, e2, e3, e4⟩ := keys_get h.key i hi
    cases nd with
    | mk j g ks =>
      rw [Tr]
      exact ⟨hj, e1.trans a, e2.trans b, e3.trans c, by rw [e4]; exact hk⟩
  · intro p
    rw [Trs]
    trivial
  · intro p q l n ns _ _ a b
    rw [Trs]
    exact ⟨⟨q, rfl, a⟩, b⟩
theorem abs (h : Ar.Like A C) {top : Nd} (hA : Abs A top) : Abs C top := by
  have hl := keys_len h.key
  refine ⟨⟨by rw [hl]; exact hA.ok.len, fun i p hp => ?_, fun c hc => ?_, fun c hc => ?_, fun c hc => ?_⟩, h.tr hA.tr, hA.od, ?_, fun x hx => ?_, by rw [hl, h.free]; exact hA.len, by rw [hl]; exact hA.cap, fun j hj => ?_, fun i hi => ?_, by rw [h.cnt]; exact hA.cnt, hA.id0, hA.g0⟩
  · rw [h.at_] at hp
    rw [hl]
    exact hA.ok.at_lt i p hp
  · obtain ⟨d, hd, _, e, _⟩ := h.mem c hc
    rw [e]
    exact hA.ok.par d hd
  · obtain ⟨d, hd, e, _, _⟩ := h.mem c hc
    rw [e]
    exact hA.ok.id d hd
  · obtain ⟨d, hd, _, _, e⟩ := h.mem c hc
    rw [e]
    exact hA.ok.kidl d hd
  · rw [h.post, h.free]
    exact hA.nd
  · rw [h.free] at hx
    rw [hl]
    exact hA.frb x hx
  · rw [h.post] at hj
    rw [h.at_, h.idAt]
    exact hA.at_ j hj
  · rw [h.at_]
    exact hA.atn i hi
end Ar.Like
theorem Ar.setKids_key (C : Ar) (k : Nat) (kv : Value) (hk : k < C.cells.length) : (C.setKids k (C.cells[k]).kids kv).cells.map Cel.key = C.cells.map Cel.key := by
  rw [Ar.setKids]
  simp only [modify_set hk, List.map_set]
  apply List.ext_getElem?
  intro j
  rw [List.getElem?_set]
  by_cases h : k = j
  · subst h
    simp [hk, Cel.key]
  · simp [h]
end Go.Tr

/-
  The library's slices: Clone at []tree.cell.
-/

namespace Go.Proofs.Ytfdeckdongonnab
open Go.Sl Go.Ls Go.Tr
set_option maxRecDepth 100000
set_option maxHeartbeats 4000000
set_option linter.unusedVariables false
attribute [local irreducible] WC WL WX WK WA WAK Val Ctr RunRes ResIs Rd At sl box pt Exit.then Exit.inBlock bodyPost Code.wp wpList
theorem sCloneC (n : Nat) (xs : List Value) (s : Value) (I : Mem) (hn : 0 < n) (hl : n ≤ 1000000) (hxl : xs.length = n * 4) (hx : xs.all Value.oneCell' = true) :
    Ctr Try.prog 48 [s] I [sl 73 4 s n xs]
      (fun r I' L' => I' = I ∧ ∃ g cap, r = .slice (some ⟨g, 0, none⟩) n cap ∧ L' = [sl 73 4 s n xs, sl 73 4 r n xs]) := by
  refine Ctr.intro Try.func48 rfl rfl rfl fun E F => ?_
  refine WC.slOpen 1 rfl fun sa sc hs hsg hsc => ?_
  subst hs
  obtain ⟨g, rfl⟩ := hsg hn
  refine WC.seq ?_
  refine WC.region ?_
  refine WL.val (Val.assignS rfl) rfl ?_
  refine WL.nil ?_
  refine WX.thenC ?_
  refine WC.seq ?_
  refine WC.seq ?_
  refine WC.region ?_
  refine WL.val (Val.moveS rfl) rfl ?_
  refine WL.val (Val.eqlNil rfl) rfl ?_
  refine WL.nil ?_
  refine WX.thenC ?_
  refine WC.condF rfl ?_
  refine WC.skip ?_
  refine WX.thenC ?_
  refine WC.seq ?_
  refine WC.region ?_
  (refine WL.buildSlice (by with_unfolding_all exact rfl) rfl (by with_unfolding_all exact rfl) rfl ?_; intro _)
  refine WL.nApp ?_
  refine WL.val (Val.moveS rfl) rfl ?_
  refine WL.boxSl (e := 73) (sz := 4) (n := 0) (xs := []) 2 rfl rfl (by decide) ?_
  refine WL.append 2 rfl rfl rfl (Rd.slN 1 rfl 0 xs (fun q u h => by rw [Nat.zero_add]; exact h)) hxl hx rfl (by decide) hn (by omega) (by unfold maxLen; omega) rfl fun g cap => ?_
  refine WL.nSet ?_
  refine WL.val (Val.assignS rfl) rfl ?_
  refine WL.nil ?_
  refine WX.thenC ?_
  refine WC.ret ?_
  rw [Nat.zero_add, List.nil_append]
  apply WX.doneP (ks := [0, 0])
  case hres => exact RunRes.r1 rfl (ResIs.tmpS rfl)
  case hI => first | exact Mem.le.refl _ | assumption
  exact ⟨rfl, _, _, rfl, rfl⟩
end Go.Proofs.Ytfdeckdongonnab

/-
  Tree, the program's: Copy.
-/

namespace Go.Sl
theorem Sat.noRows {E : Ev} {w : World} {I : Mem} {L : List HP} (h : Sat E w I L) : Sat E w I (sts [] :: L) := h.imp fun m hm => ⟨fun _ => none, m, fun _ _ h => (by cases h), Mem.le.refl _, fun _ => .inl rfl, trivial, hm⟩
end Go.Sl
namespace Go.Tr
open Go.Sl Go.Ls
/-- The cells of an arena are numbers and slices. -/
theorem Ar.one {A : Ar} {E : Ev} {w : World} {I : Mem} {L : List HP} (k : Nat) (hL : L[k]? = some (sts (A.cells.map Cel.row))) (hw : Sat E w I L) : A.flat.all Value.oneCell' = true := by
  rw [List.all_eq_true]
  intro v hv
  rw [Ar.flat, List.mem_flatten] at hv
  obtain ⟨l, hl, hv⟩ := hv
  obtain ⟨c, hc, rfl⟩ := List.mem_map.1 hl
  obtain ⟨i, hi, rfl⟩ := List.getElem_of_mem hc
  have h1 := hw.rowOne k i hL (v := (A.cells[i]).kv) (e := 3) (sz := 1) (by rw [List.getElem?_map, List.getElem?_eq_getElem hi]; rfl)
  simp only [Cel.cs, List.mem_cons, List.not_mem_nil, or_false] at hv
  rcases hv with rfl | rfl | rfl | rfl
  · rfl
  · rfl
  · rfl
  · exact h1
theorem take_set1 {α : Type} {l : List α} {k : Nat} (hk : k < l.length) (x : α) : (l.set k x).take (k + 1) = l.take k ++ [x] := by
  rw [List.take_succ_eq_append_getElem (by simpa using hk), List.getElem_set_self, List.take_set_of_le (Nat.le_refl _)]
theorem Ar.setKids_take (C : Ar) (k : Nat) (ks : List Int) (kv : Value) (hk : k < C.cells.length) : ((C.setKids k ks kv).cells.take (k + 1)).map Cel.row = (C.cells.take k).map Cel.row ++ [sl 3 1 kv ks.length (ks.map vi)] := by
  rw [Ar.setKids]
  simp only [modify_set hk]
  rw [take_set1 hk, List.map_append]
  rfl
end Go.Tr
namespace Go.Proofs.Ytfdeckdongonnab
open Go.Sl Go.Ls Go.Tr
set_option maxRecDepth 100000
set_option maxHeartbeats 8000000
set_option linter.unusedVariables false
attribute [local irreducible] WC WL WX WK WA WAK Val Ctr RunRes ResIs Rd At sl box pt Exit.then Exit.inBlock bodyPost Code.wp wpList
theorem tCopy (A : Ar) (top : Nd) (hA : Abs A top) (I : Mem) :
    Ctr Try.prog 18 [ptr A.b] I A.hp (fun v I' L' => I' = I ∧ ∃ C : Ar, Ar.Like A C ∧ v = ptr C.b ∧ L' = A.hp ++ C.hp) := by
  have hcap := hA.cap
  have hlen := hA.len
  have hpos := top.size_pos
  have hz : 0 < A.cells.length := by omega
  have hfl : A.flat.length = A.cells.length * 4 := by
    have h := flat_len' _ A.flat_len
    rw [List.length_map] at h
    exact h
  refine Ctr.intro Try.func18 rfl rfl rfl fun E F => ?_
  refine WC.know (fun w hw => Ar.one (A := A) 5 rfl hw) fun hone => ?_
  refine WC.seq ?_
  refine WC.region ?_
  refine WL.val (Val.assignP rfl) rfl ?_
  refine WL.nil ?_
  refine WX.thenC ?_
  refine WC.seq ?_
  refine WC.drawK 999 I [1] rfl (by kernel_rfl) rfl rfl ?_
  refine WA.take 0 rfl (by kernel_rfl) rfl (fun w h => (h.sub [1] rfl)) (Val.moveP rfl) rfl ?_
  refine WA.take 1 rfl (by kernel_rfl) rfl (fun w h => (h.sub [1] rfl)) (Val.nilCheckP rfl) rfl ?_
  refine WA.take 2 rfl (by kernel_rfl) rfl (fun w h => (h.sub [1] rfl)) (Val.fldAddr rfl) rfl ?_
  refine WA.take 3 rfl (by kernel_rfl) rfl (fun w h => (h.sub [1] rfl)) (Val.loadS rfl (Rd.own1 0 rfl rfl)) rfl ?_
  refine WA.take 5 rfl (by kernel_rfl) rfl (fun w h => (h.sub [1] rfl)) (Val.moveP rfl) rfl ?_
  refine WA.take 6 rfl (by kernel_rfl) rfl (fun w h => (h.sub [1] rfl)) (Val.nilCheckP rfl) rfl ?_
  refine WA.take 7 rfl (by kernel_rfl) rfl (fun w h => (h.sub [1] rfl)) (Val.fldAddr rfl) rfl ?_
  refine WA.take 8 rfl (by kernel_rfl) rfl (fun w h => (h.sub [1] rfl)) (Val.loadS rfl (Rd.own1 0 rfl rfl)) rfl ?_
  refine WA.later (fun ρ' I' L' => ∃ mb cg cc ra rc, I' = I ∧ ρ' 0 = ptr A.b ∧ ρ' 11 = .slice (some ⟨cg, 0, none⟩) A.cells.length cc ∧ ρ' 16 = .slice ra A.free.length rc ∧ ρ' 17 = .map (some mb) ∧ L' = F :: A.on [sl 73 4 (.slice (some ⟨cg, 0, none⟩) A.cells.length cc) A.cells.length A.flat, sl 3 1 (.slice ra A.free.length rc) A.free.length (A.free.map vi), mp mb (fun _ => none) 0]) 3 (marks 14 [0, 1, 2, 3, 4, 5, 6, 7, 8, 9, 10]) ?_ fun rest => ?_
  · rintro ρ' I' _ ⟨mb, cg, cc, ra, rc, rfl, r0, r11, r16, r17, rfl⟩
    rw [← upd_self r0, ← upd_self r11, ← upd_self r16, ← upd_self r17]
    clear r17 r16 r11 r0
    refine WA.eff1 (i := 11) (by kernel_rfl) rfl rfl ?_
    refine WL.val (Val.build (cs := [.slice (some ⟨cg, 0, none⟩) A.cells.length cc, .slice ra A.free.length rc, .map (some mb)]) rfl) rfl ?_
    refine WL.nil ?_
    refine WK.anyStep (fun w h => (h.sub [1] rfl)) ?_
    refine WA.eff1 (i := 12) (by kernel_rfl) rfl rfl ?_
    (refine WL.boxA rfl rfl ?_; intro _)
    rename_i g
    refine WL.nApp ?_
    refine WL.nil ?_
    refine WK.anyStep (fun w h => (h.sub [1] rfl)) ?_
    refine WA.take 13 rfl (by kernel_rfl) rfl (fun w h => (h.sub [1] rfl)) (Val.assignP rfl) rfl ?_
    refine WA.done (by kernel_rfl) ?_
    refine WX.thenC ?_
    refine WC.seq ?_
    refine WC.seq ?_
    refine WC.region ?_
    refine WL.val (Val.moveP rfl) rfl ?_
    refine WL.val (Val.nilCheckP rfl) rfl ?_
    refine WL.val (Val.fldAddr rfl) rfl ?_
    refine WL.val (Val.loadS rfl (Rd.own1 9 rfl rfl)) rfl ?_
    refine WL.val (Val.len rfl) rfl ?_
    refine WL.val (Val.moveI rfl) rfl ?_
    refine WL.nil ?_
    refine WX.thenC ?_
    refine WC.block ?_
    refine WC.conv (fun w h => (h.sub [0, 0, 0, 0, 0, 0, 3, 0, 0, 0] rfl).noRows) ?_
    refine WC.loop (fun m ρ' I'' L' => ∃ (k : Nat) (C : Ar) (fa : Option Addr) (fc : Nat), m = A.cells.length - k ∧ k ≤ A.cells.length ∧ I'' = I' ∧ ρ' 0 = ptr A.b ∧ ρ' 3 = ptr C.b ∧ ρ' 24 = vi A.cells.length ∧ ρ' 25 = vi k ∧ L' = sts ((C.cells.take k).map Cel.row) :: F :: A.on [box C.b 77 [C.cv, .slice fa A.free.length fc, .map (some C.mb)], sl 73 4 C.cv C.cells.length C.flat, sl 3 1 (.slice fa A.free.length fc) A.free.length (A.free.map vi), mp C.mb (fun _ => none) 0] ∧ C.cells.map Cel.key = A.cells.map Cel.key ∧ (∀ j, k ≤ j → C.cells[j]? = A.cells[j]?) ∧ C.fv = .slice fa A.free.length fc ∧ C.free = A.free)
      A.cells.length ⟨0, { b := g, mb := mb, cg := cg, cc := cc, cells := A.cells, fv := .slice ra A.free.length rc, free := A.free, at_ := fun _ => none, cnt := 0 }, ra, rc, rfl, by omega, rfl, rfl, rfl, rfl, rfl, rfl, rfl, fun _ _ => rfl, rfl, rfl⟩ ?_
    rintro m ρ' I'' L' ⟨k, C, fa, fc, rfl, hk, rfl, r0, r3, r24, r25, rfl, hkey, hsame, hfv, hfree⟩
    rw [← upd_self r25, ← upd_self r24, ← upd_self r3, ← upd_self r0]
    clear r25 r24 r3 r0
    have hcl := keys_len hkey
    by_cases hkn : k < A.cells.length
    · have hkc : k < C.cells.length := by omega
      have hck : C.cells[k] = A.cells[k] := by
        have := hsame k (Nat.le_refl _)
        rw [List.getElem?_eq_getElem hkc, List.getElem?_eq_getElem hkn] at this
        exact Option.some.inj this
      have hrow := Ar.row hkn
      have hc3 := Ar.c3 hkc
      have hkl := hA.ok.kidl _ (List.getElem_mem hkn)
      rw [hck] at hc3
      refine WC.rowOpen 6 k rfl hrow fun aa cap hkv hg => ?_
      rw [hkv] at hc3 hrow
      refine WC.seq ?_
      refine WC.region ?_
      refine WL.val (Val.lss rfl rfl (decide_eq_true (by omega))) rfl ?_
      refine WL.nil ?_
      refine WX.thenC ?_
      refine WC.seq ?_
      refine WC.condT rfl ?_
      refine WC.skip ?_
      refine WX.thenC ?_
      refine WC.seq ?_
      refine WC.block ?_
      refine WC.seq ?_
      refine WC.region ?_
      refine WL.val (Val.moveI rfl) rfl ?_
      refine WL.val (Val.assignI rfl) rfl ?_
      refine WL.nil ?_
      refine WX.thenC ?_
      refine WC.drawK 16 I'' [7, 7] rfl (by kernel_rfl) rfl rfl ?_
      refine WA.take 0 rfl (by kernel_rfl) rfl (fun w h => (h.sub [7, 7] rfl)) (Val.moveP rfl) rfl ?_
      refine WA.take 1 rfl (by kernel_rfl) rfl (fun w h => (h.sub [7, 7] rfl)) (Val.nilCheckP rfl) rfl ?_
      refine WA.take 2 rfl (by kernel_rfl) rfl (fun w h => (h.sub [7, 7] rfl)) (Val.fldAddr rfl) rfl ?_
      refine WA.take 3 rfl (by kernel_rfl) rfl (fun w h => (h.sub [7, 7] rfl)) (Val.loadS rfl (Rd.own1 0 rfl rfl)) rfl ?_
      refine WA.take 4 rfl (by kernel_rfl) rfl (fun w h => (h.sub [7, 7] rfl)) (Val.moveI rfl) rfl ?_
      refine WA.take 5 rfl (by kernel_rfl) rfl (fun w h => (h.sub [7, 7] rfl)) (Val.moveP rfl) rfl ?_
      refine WA.take 6 rfl (by kernel_rfl) rfl (fun w h => (h.sub [7, 7] rfl)) (Val.nilCheckP rfl) rfl ?_
      refine WA.take 7 rfl (by kernel_rfl) rfl (fun w h => (h.sub [7, 7] rfl)) (Val.fldAddr rfl) rfl ?_
      refine WA.take 8 rfl (by kernel_rfl) rfl (fun w h => (h.sub [7, 7] rfl)) (Val.loadS rfl (Rd.own1 0 rfl rfl)) rfl ?_
      refine WA.take 9 rfl (by kernel_rfl) rfl (fun w h => (h.sub [7, 7] rfl)) (Val.moveI rfl) rfl ?_
      refine WA.take 10 rfl (by kernel_rfl) rfl (fun w h => (h.sub [7, 7] rfl)) (Val.indexAddr rfl rfl (by omega) (by omega)) rfl ?_
      refine WA.take 11 rfl (by kernel_rfl) rfl (fun w h => (h.sub [7, 7] rfl)) (Val.fldAddr rfl) rfl ?_
      first | refine WA.take 12 rfl (by kernel_rfl) rfl (fun w h => (h.sub [7, 7] rfl)) (Val.loadS rfl (Rd.sl1 1 rfl hc3)) rfl ?_ | refine WA.takeGT 12 rfl (by kernel_rfl) rfl (fun w h => (h.sub [7, 7] rfl)) rfl rfl (Val.loadS rfl (Rd.sl1 1 rfl hc3)) rfl ?_
      refine WA.eff1 (i := 13) (by kernel_rfl) rfl rfl ?_
      refine WL.callRowNew (R := fun v q => q = sl 3 1 v (A.cells[k]).kids.length ((A.cells[k]).kids.map vi)) 6 k 0 rfl rfl rfl hrow rfl ((sClone (A.cells[k]).kids _ _ (by omega)).mono fun v I' L' _ h => ⟨h.1, _, rfl, h.2⟩) rfl ?_
      rintro r _ rfl
      refine WL.nSet ?_
      have hnew : ((C.cells.take k).map Cel.row ++ [sl 3 1 r (A.cells[k]).kids.length ((A.cells[k]).kids.map vi)])[k]? = some (sl 3 1 r (A.cells[k]).kids.length ((A.cells[k]).kids.map vi)) := by
        have h1 : ((C.cells.take k).map Cel.row).length = k := by rw [List.length_map, List.length_take]; omega
        rw [List.getElem?_append_right (by omega), h1, Nat.sub_self]; rfl
      refine WL.rowOpen 0 k rfl hnew fun ra rc hr hg2 => ?_
      clear hnew
      subst hr
      refine WL.nil ?_
      refine WK.anyStep (fun w h => (h.sub [7, 7] rfl)) ?_
      refine WA.eff1 (i := 14) (by kernel_rfl) rfl rfl ?_
      refine WL.val (Val.indexAddr rfl rfl (by omega) (by omega)) rfl ?_
      refine WL.nil ?_
      refine WK.anyStep (fun w h => (h.sub [7, 7] rfl)) ?_
      refine WA.eff1 (i := 15) (by kernel_rfl) rfl rfl ?_
      refine WL.val (Val.fldAddr rfl) rfl ?_
      refine WL.nil ?_
      refine WK.anyStep (fun w h => (h.sub [7, 7] rfl)) ?_
      refine WA.eff1 (i := 16) (by kernel_rfl) rfl rfl ?_
      refine WL.storeSl 8 rfl rfl rfl rfl (by show 0 + (k : Int).toNat * 4 + 3 + 1 ≤ C.cells.length * 4; rw [Int.toNat_natCast]; omega) ?_
      refine WL.nSet ?_
      refine WL.nil ?_
      refine WK.anyLast ?_
      refine WA.done (by kernel_rfl) ?_
      refine WX.inNormal ?_
      refine WX.thenC ?_
      refine WC.region ?_
      refine WL.val (Val.add rfl rfl (wrap_i64 (by omega) (by omega))) rfl ?_
      refine WL.val (Val.moveI rfl) rfl ?_
      refine WL.nil ?_
      have e1 := C.setKids_take k (C.cells[k]).kids (.slice ra (A.cells[k]).kids.length rc) hkc
      have e2 := C.setKids_flat k (C.cells[k]).kids (.slice ra (A.cells[k]).kids.length rc) hkc
      have e3 := C.setKids_len k (C.cells[k]).kids (.slice ra (A.cells[k]).kids.length rc)
      have e4 := C.setKids_key k (.slice ra (A.cells[k]).kids.length rc) hkc
      rw [hck] at e1 e2 e3 e4
      refine WX.thenK (WK.round (A.cells.length - (k + 1)) (by omega) ⟨k + 1, C.setKids k (A.cells[k]).kids (.slice ra (A.cells[k]).kids.length rc), fa, fc, rfl, by omega, rfl, rfl, rfl, rfl, rfl, ?_, by rw [e4]; exact hkey, fun j hj => ?_, hfv, hfree⟩)
      · rw [e1]
        simp only [Ar.cv, e2, e3]
        rfl
      · rw [← hsame j (by omega), Ar.setKids]
        simp only [List.getElem?_modify, if_neg (show k ≠ j by omega), Option.map_id, id]
        simp
    · have hke : k = A.cells.length := by omega
      subst hke
      refine WC.seq ?_
      refine WC.region ?_
      refine WL.val (Val.lss rfl rfl (decide_eq_false (by omega))) rfl ?_
      refine WL.nil ?_
      refine WX.thenC ?_
      refine WC.seq ?_
      refine WC.condF rfl ?_
      refine WC.exit ?_
      refine WX.thenExit ?_
      refine WX.thenExit ?_
      refine WX.inHit ?_
      refine WX.thenC ?_
      refine WC.seq ?_
      refine WC.seq ?_
      refine WC.region ?_
      refine WL.val (Val.moveP rfl) rfl ?_
      refine WL.val (Val.nilCheckP rfl) rfl ?_
      refine WL.val (Val.fldAddr rfl) rfl ?_
      refine WL.val (Val.loadS rfl (Rd.own1 2 rfl rfl)) rfl ?_
      refine WL.mpOpen 5 rfl fun a c hs hM => ?_
      refine WL.nSet ?_
      refine WL.rangeMap 5 rfl rfl rfl fun r => ?_
      refine WL.nApp ?_
      refine WL.nil ?_
      refine WX.thenC ?_
      refine WC.block ?_
      have hval : ∀ e ∈ a.toList, ∃ k v : Int, e.key = vi k ∧ e.val = vi v ∧ A.at_ k = some v := fun e he => by
        obtain ⟨k, hk'⟩ := hM.2.1 e he
        have h1 := (hM.2.2 k e.val).2 ⟨e, he, hk', rfl⟩
        unfold Ar.look at h1
        cases h2 : A.at_ k with
        | none => rw [h2] at h1; cases h1
        | some v => rw [h2] at h1; injection h1 with h1; exact ⟨k, v, hk', h1.symm, h2⟩
      refine WC.loop (fun m ρ' I2 L' => ∃ (seen : Array Nat) (c0 n' : Nat) (f : Int → Option Int), m = (leftOf a seen).size ∧ I2 = I'' ∧ ρ' 3 = ptr C.b ∧ ρ' 49 = .pointer (some ⟨r, 0, none⟩) ∧ L' = [sts (List.map Cel.row (List.take A.cells.length C.cells)), F, box A.b 77 [A.cv, A.fv, Value.map (some A.mb)],
      sl 73 4 A.cv A.cells.length A.flat, sl 3 1 A.fv A.free.length (List.map vi A.free), pt A.mb (Obj.map a c),
      sts (List.map Cel.row A.cells), box C.b 77 [C.cv, Value.slice fa A.free.length fc, Value.map (some C.mb)],
      sl 73 4 C.cv C.cells.length C.flat, sl 3 1 (Value.slice fa A.free.length fc) A.free.length (List.map vi A.free),
      mp C.mb (fun k => (f k).map vi) n', pt r (Obj.mapIter (some A.mb) c seen c0)] ∧ c ≤ c0 ∧ (∀ k v, f k = some v → A.at_ k = some v) ∧ (∀ e ∈ a.toList, seen.contains e.born = true → ∀ k, e.key = vi k → f k = A.at_ k))
        (leftOf a #[]).size ⟨#[], c, 0, fun _ => none, rfl, rfl, rfl, rfl, rfl, Nat.le_refl _, fun k v h => (by cases h), fun e he h => (by simp at h)⟩ ?_
      rintro m ρ' I2 L' ⟨seen, c0, n', f, rfl, rfl, r3, r49, rfl, hc0, hf1, hf2⟩
      rw [← upd_self r49, ← upd_self r3]
      clear r49 r3
      refine WC.seq ?_
      refine WC.region ?_
      refine WL.nextMap 5 11 rfl rfl rfl hs.1 hc0 rfl (fun h0 => ?_) (fun e he => ?_)
      · have hfA : f = A.at_ := by
          funext k
          cases hk : A.at_ k with
          | none =>
            cases hfk : f k with
            | none => rfl
            | some v => rw [hf1 k v hfk] at hk; cases hk
          | some v =>
            obtain ⟨e, he, h1, h2⟩ := (hM.2.2 k (vi v)).1 (by unfold Ar.look; rw [hk]; rfl)
            rw [← hk]
            exact hf2 e he (all_seen a seen h0 e he) k h1
        subst hfA
        refine WL.val (Val.extractB rfl rfl) rfl ?_
        refine WL.nil ?_
        refine WX.thenC ?_
        refine WC.seq ?_
        refine WC.condF rfl ?_
        refine WC.exit ?_
        refine WX.thenExit ?_
        refine WX.thenExit ?_
        refine WX.inHit ?_
        refine WX.thenC ?_
        refine WC.seq ?_
        refine WC.region ?_
        refine WL.val (Val.moveP rfl) rfl ?_
        refine WL.val (Val.assignP rfl) rfl ?_
        refine WL.nil ?_
        refine WX.thenC ?_
        refine WC.ret ?_
        refine WX.know (fun w hw => Sat.mpLen (L := _) 10 rfl hs hM hw) fun hn => ?_
        subst hn
        refine WX.mpClose 5 rfl hs hM ?_
        refine WX.nSet ?_
        refine WX.conv (fun w h => h.sub [1, 1, 1, 1, 1, 1, 1, 1, 1, 1, 0] rfl) ?_
        have hI := Mem.le.refl I2
        apply WX.doneP (ks := [0, 0, 0, 0, 0, 0, 0, 0, 0, 0])
        case hres => exact RunRes.r1 rfl (ResIs.tmpP rfl)
        case hI => first | exact Mem.le.refl _ | assumption
        refine ⟨rfl, { b := C.b, mb := C.mb, cg := C.cg, cc := C.cc, cells := C.cells, fv := C.fv, free := A.free, at_ := A.at_, cnt := A.cnt }, ⟨hkey, rfl, rfl, rfl⟩, rfl, ?_⟩
        rw [List.take_of_length_le (Nat.le_of_eq hcl), ← hfv]
        rfl
      · refine WL.nSet ?_
        have hem := (mem_left he).1
        obtain ⟨k, v, hkey', hval', hat⟩ := hval e hem
        rw [hkey', hval']
        refine WL.val (Val.extractB rfl rfl) rfl ?_
        refine WL.nil ?_
        refine WX.thenC ?_
        refine WC.seq ?_
        refine WC.condT rfl ?_
        refine WC.skip ?_
        refine WX.thenC ?_
        refine WC.block ?_
        refine WC.seq ?_
        refine WC.region ?_
        refine WL.val (Val.entryMap 5 11 rfl rfl rfl hem hs.2.1) rfl ?_
        rw [hkey', hval']
        refine WL.val (Val.extractI rfl rfl) rfl ?_
        refine WL.val (Val.extractI rfl rfl) rfl ?_
        refine WL.val (Val.assignI rfl) rfl ?_
        refine WL.val (Val.assignI rfl) rfl ?_
        refine WL.nil ?_
        refine WX.thenC ?_
        refine WC.region ?_
        refine WL.val (Val.moveP rfl) rfl ?_
        refine WL.val (Val.nilCheckP rfl) rfl ?_
        refine WL.val (Val.fldAddr rfl) rfl ?_
        refine WL.val (Val.loadS rfl (Rd.own1 7 rfl rfl)) rfl ?_
        refine WL.val (Val.moveI rfl) rfl ?_
        refine WL.val (Val.moveI rfl) rfl ?_
        refine WL.mapUpdate 10 rfl rfl rfl ?_
        refine WL.nSet ?_
        refine WL.nil ?_
        refine WX.inNormal ?_
        have e1 : Sl.put (fun k => (f k).map vi) k (vi v) = fun k' => (if k' = k then some v else f k').map vi := by
          funext k'
          by_cases h : k' = k
          · rw [h, put_same, if_pos rfl]; rfl
          · rw [put_ne _ _ h, if_neg h]
        refine WX.thenK (WK.round (leftOf a (seen.push e.born)).size (left_shrinks a seen e he) ⟨seen.push e.born, c, if (Option.map vi (f k)).isSome = true then n' else n' + 1, fun k' => if k' = k then some v else f k', rfl, rfl, rfl, rfl, ?_, Nat.le_refl _, fun k' v' h => ?_, fun e' he' hs' k' hk' => ?_⟩)
        · rw [← e1]
          rfl
        · dsimp only at h
          split at h
          · rename_i hkk
            injection h with h
            rw [hkk, ← h, hat]
          · exact hf1 k' v' h
        · rw [contains_push] at hs'
          dsimp only
          split
          · rename_i hkk
            rw [hkk, hat]
          · rename_i hkk
            cases hsn : seen.contains e'.born with
            | true => exact hf2 e' he' hsn k' hk'
            | false =>
              rw [hsn, Bool.false_or] at hs'
              have := born_inj hs.2.1 he' hem (beq_iff_eq.1 hs')
              subst this
              rw [hkey'] at hk'
              injection hk' with _ hk'
              exact absurd hk'.symm hkk
  refine WA.eff2 (i := 4) (j := 10) (by kernel_rfl) rfl rfl rfl rfl ?_ ?_
  · skip
    refine WL.callP [2] rfl rfl (sCloneC _ A.flat _ _ hz (by omega) hfl hone) rfl ?_
    rintro _ _ _ _ ⟨rfl, cg, cc, rfl, rfl⟩
    refine WL.nApp ?_
    refine WL.nil ?_
    refine WK.anyStep (fun w h => (h.sub [1] rfl)) ?_
    refine WA.eff2 (i := 9) (j := 10) (by kernel_rfl) rfl rfl rfl rfl ?_ ?_
    · skip
      refine WL.callP [2] rfl rfl (sClone A.free _ _ (by omega)) rfl ?_
      rintro r2 _ _ _ ⟨rfl, rfl⟩
      refine WL.nApp ?_
      first | refine WL.slOpen 8 rfl fun ra rc hr => ?_ | refine WL.slOpen 7 rfl fun ra rc hr => ?_
      subst hr
      refine WL.nil ?_
      refine WK.anyStep (fun w h => (h.sub [1] rfl)) ?_
      refine WA.eff1 (i := 10) (by kernel_rfl) rfl rfl ?_
      refine WL.makeMap rfl fun mb => ?_
      refine WL.nApp ?_
      refine WL.nil ?_
      refine WK.anyStep (fun w h => (h.sub [1] rfl)) ?_
      first | exact WA.goes rest (by kernel_rfl) (fun w h => h.sub [0, 0, 2, 3, 0, 0, 0, 0, 0] rfl) ⟨_, _, _, _, _, rfl, rfl, rfl, rfl, rfl, rfl⟩ | exact WA.goes rest (by kernel_rfl) (fun w h => h.sub [0, 0, 2, 4, 0, 0, 0, 1, 0] rfl) ⟨_, _, _, _, _, rfl, rfl, rfl, rfl, rfl, rfl⟩ | exact WA.goes rest (by kernel_rfl) (fun w h => h.sub [0, 0, 3, 4, 0, 0, 1, 1, 0] rfl) ⟨_, _, _, _, _, rfl, rfl, rfl, rfl, rfl, rfl⟩
    · skip
      refine WL.makeMap rfl fun mb => ?_
      refine WL.nApp ?_
      refine WL.nil ?_
      refine WK.anyStep (fun w h => (h.sub [1] rfl)) ?_
      refine WA.eff1 (i := 9) (by kernel_rfl) rfl rfl ?_
      refine WL.callP [2] rfl rfl (sClone A.free _ _ (by omega)) rfl ?_
      rintro r2 _ _ _ ⟨rfl, rfl⟩
      refine WL.nApp ?_
      first | refine WL.slOpen 8 rfl fun ra rc hr => ?_ | refine WL.slOpen 7 rfl fun ra rc hr => ?_
      subst hr
      refine WL.nil ?_
      refine WK.anyStep (fun w h => (h.sub [1] rfl)) ?_
      first | exact WA.goes rest (by kernel_rfl) (fun w h => h.sub [0, 0, 2, 3, 0, 0, 0, 0, 0] rfl) ⟨_, _, _, _, _, rfl, rfl, rfl, rfl, rfl, rfl⟩ | exact WA.goes rest (by kernel_rfl) (fun w h => h.sub [0, 0, 2, 4, 0, 0, 0, 1, 0] rfl) ⟨_, _, _, _, _, rfl, rfl, rfl, rfl, rfl, rfl⟩ | exact WA.goes rest (by kernel_rfl) (fun w h => h.sub [0, 0, 3, 4, 0, 0, 1, 1, 0] rfl) ⟨_, _, _, _, _, rfl, rfl, rfl, rfl, rfl, rfl⟩
  · skip
    refine WL.makeMap rfl fun mb => ?_
    refine WL.nApp ?_
    refine WL.nil ?_
    refine WK.anyStep (fun w h => (h.sub [1] rfl)) ?_
    refine WA.eff1 (i := 4) (by kernel_rfl) rfl rfl ?_
    refine WL.callP [2] rfl rfl (sCloneC _ A.flat _ _ hz (by omega) hfl hone) rfl ?_
    rintro _ _ _ _ ⟨rfl, cg, cc, rfl, rfl⟩
    refine WL.nApp ?_
    refine WL.nil ?_
    refine WK.anyStep (fun w h => (h.sub [1] rfl)) ?_
    refine WA.eff1 (i := 9) (by kernel_rfl) rfl rfl ?_
    refine WL.callP [2] rfl rfl (sClone A.free _ _ (by omega)) rfl ?_
    rintro r2 _ _ _ ⟨rfl, rfl⟩
    refine WL.nApp ?_
    first | refine WL.slOpen 8 rfl fun ra rc hr => ?_ | refine WL.slOpen 7 rfl fun ra rc hr => ?_
    subst hr
    refine WL.nil ?_
    refine WK.anyStep (fun w h => (h.sub [1] rfl)) ?_
    first | exact WA.goes rest (by kernel_rfl) (fun w h => h.sub [0, 0, 2, 3, 0, 0, 0, 0, 0] rfl) ⟨_, _, _, _, _, rfl, rfl, rfl, rfl, rfl, rfl⟩ | exact WA.goes rest (by kernel_rfl) (fun w h => h.sub [0, 0, 2, 4, 0, 0, 0, 1, 0] rfl) ⟨_, _, _, _, _, rfl, rfl, rfl, rfl, rfl, rfl⟩ | exact WA.goes rest (by kernel_rfl) (fun w h => h.sub [0, 0, 3, 4, 0, 0, 1, 1, 0] rfl) ⟨_, _, _, _, _, rfl, rfl, rfl, rfl, rfl, rfl⟩
end Go.Proofs.Ytfdeckdongonnab

/-
  Tree, the program's: Node, whose answer's own kids are still one's own.
-/

namespace Go.Proofs.Ytfdeckdongonnab
open Go.Sl Go.Ls Go.Tr
set_option maxRecDepth 100000
set_option maxHeartbeats 4000000
set_option linter.unusedVariables false
attribute [local irreducible] WC WL WX WK WA WAK Val Ctr RunRes ResIs Rd At sl box pt Exit.then Exit.inBlock bodyPost Code.wp wpList
/-- A node, its own kids in a list of one's own. -/
def NodeO (A : Ar) (nd : Nd) (u : Value → Value) : Value → Mem → List HP → Prop := fun v I' L' => ∃ a c pp, v = u (.agg #[vi nd.id, .bool nd.grp, .slice a nd.kids.length c]) ∧ L' = A.on [pp] ∧ OwnL Nd.Rp 29 3 I' nd.kids (.slice a nd.kids.length c) pp
theorem tNodeO (A : Ar) (hA : A.Ok) (nd : Nd) (p : Int) (i : Nat) (I : Mem) (hb : nd.size ≤ 1000000000) (ht : Tr A p i nd) :
    Ctr Try.prog 55 [ptr A.b, vi i] I A.hp (NodeO A nd id) := by
    obtain ⟨hi, hid, hgr, hpa, hks⟩ := ht.ex
    have hsz := sizes_lt nd
    have hll := Nd.len_le_sizes nd.kids
    have hlk := hks.len
    have hrow := Ar.row hi
    have hI64 : I64 nd.id := by rw [← hid]; exact hA.id _ (List.getElem_mem hi)
    refine Ctr.intro Try.func55 rfl rfl rfl fun E F => ?_
    refine WC.rowOpen 5 i rfl hrow fun aa cap hkv hg => ?_
    have hrd : ∀ j v, [vi nd.id, .bool nd.grp, vi p, .slice aa nd.kids.length cap][j]? = some v → A.flat[0 + ((i : Nat) : Int).toNat * 4 + j]? = some v := by
      intro j v hj
      have hj4 : j < 4 := by
        rcases Nat.lt_or_ge j 4 with h | h
        · exact h
        · rw [List.getElem?_eq_none (by simpa using h)] at hj; cases hj
      rw [Ar.at hi j hj4, ← hj]
      simp only [Cel.cs, hid, hgr, hpa, hkv, hlk]
    rw [hkv] at hrow
    refine WC.seq ?_
    refine WC.region ?_
    (refine WL.alloc rfl ?_; intro _)
    refine WL.nApp ?_
    refine WL.nil ?_
    refine WX.thenC ?_
    refine WC.seq ?_
    refine WC.region ?_
    refine WL.val (Val.moveP rfl) rfl ?_
    refine WL.val (Val.nilCheckP rfl) rfl ?_
    refine WL.val (Val.fldAddr rfl) rfl ?_
    refine WL.val (Val.loadS rfl (Rd.own1 1 rfl rfl)) rfl ?_
    refine WL.val (Val.moveI rfl) rfl ?_
    refine WL.val (Val.indexAddr rfl rfl (by omega) (by omega)) rfl ?_
    refine WL.val (Val.loadA rfl (Rd.slN 2 rfl _ [vi nd.id, .bool nd.grp, vi p, .slice aa nd.kids.length cap] hrd) rfl) rfl ?_
    (refine WL.alloc rfl ?_; intro _)
    refine WL.nApp ?_
    refine WL.stA 7 rfl rfl rfl rfl ?_
    refine WL.nil ?_
    refine WX.thenC ?_
    refine WC.seq ?_
    refine WC.region ?_
    refine WL.val (Val.fldAddr rfl) rfl ?_
    refine WL.val (Val.loadS rfl (Rd.own1 7 rfl rfl)) rfl ?_
    refine WL.val (Val.fldAddr rfl) rfl ?_
    refine WL.val (Val.loadS rfl (Rd.own1 7 rfl rfl)) rfl ?_
    refine WL.val (Val.build (cs := [vi nd.id, .bool nd.grp, .slice none 0 0]) rfl) rfl ?_
    (refine WL.alloc rfl ?_; intro _)
    refine WL.nApp ?_
    refine WL.stA 8 rfl rfl rfl rfl ?_
    refine WL.nil ?_
    refine WX.thenC ?_
    refine WC.seq ?_
    refine WC.seq ?_
    refine WC.region ?_
    refine WL.val (Val.fldAddr rfl) rfl ?_
    refine WL.val (Val.loadS rfl (Rd.own1 7 rfl rfl)) rfl ?_
    refine WL.val (Val.len rfl) rfl ?_
    refine WL.val (Val.moveI rfl) rfl ?_
    refine WL.nil ?_
    refine WX.thenC ?_
    refine WC.block ?_
    rename_i g4 g5 g6
    refine WC.slNil 29 3 ?_
    refine WC.nApp ?_
    refine WC.loop (fun n ρ' I' L' => ∃ (k : Nat) (a : Option Addr) (c : Nat) (pp : HP), n = nd.kids.length - k ∧ k ≤ nd.kids.length ∧ I.le I' ∧ ρ' 0 = ptr A.b ∧ ρ' 4 = ptr g4 ∧ ρ' 6 = ptr g6 ∧ ρ' 22 = .slice aa nd.kids.length cap ∧ ρ' 23 = vi nd.kids.length ∧ ρ' 24 = vi k ∧
        L' = F :: A.on [box g4 29 [vi 0, .bool false, .slice none 0 0], box g5 73 [vi nd.id, .bool nd.grp, vi p, .slice aa nd.kids.length cap], box g6 29 [vi nd.id, .bool nd.grp, .slice a k c], pp] ∧ OwnL Nd.Rp 29 3 I' (nd.kids.take k) (.slice a k c) pp)
      nd.kids.length ⟨0, none, 0, _, rfl, by omega, Mem.le.refl _, rfl, rfl, rfl, rfl, rfl, rfl, rfl, [], rfl, trivial⟩ ?_
    rintro n ρ' I0 L' ⟨k, a, c, pp, rfl, hk, hI, h0, h4, h6, h22, h23, h24, rfl, hp⟩
    rw [← upd_self h24, ← upd_self h23, ← upd_self h22, ← upd_self h6, ← upd_self h4, ← upd_self h0]
    clear h24 h23 h22 h6 h4 h0
    have hwl : (nd.kids.take k).length = k := by rw [List.length_take]; omega
    by_cases hkn : k < nd.kids.length
    · obtain ⟨g, rfl⟩ := hg (by omega)
      obtain ⟨q, hq, htq⟩ := hks.get k (by omega) hkn
      have hv : ((A.cells[i]).kids.map vi)[0 + ((k : Nat) : Int).toNat * 1]? = some (vi q) := by
        rw [Nat.zero_add, Int.toNat_natCast, Nat.mul_one, List.getElem?_map, List.getElem?_eq_getElem (by omega), hq]; rfl
      have hbk := kid_sz hkn
      have htk : nd.kids.take (k + 1) = nd.kids.take k ++ [nd.kids[k]] := take1 _ _ hkn
      refine WC.seq ?_
      refine WC.region ?_
      refine WL.val (Val.lss rfl rfl (decide_eq_true (by omega))) rfl ?_
      refine WL.nil ?_
      refine WX.thenC ?_
      refine WC.seq ?_
      refine WC.condT rfl ?_
      refine WC.skip ?_
      refine WX.thenC ?_
      refine WC.seq ?_
      refine WC.block ?_
      refine WC.seq ?_
      refine WC.region ?_
      refine WL.val (Val.indexAddr rfl rfl (by omega) (by omega)) rfl ?_
      refine WL.val (Val.loadS rfl (Rd.row1 5 i rfl hrow hv)) rfl ?_
      refine WL.val (Val.assignI rfl) rfl ?_
      refine WL.nil ?_
      refine WX.thenC ?_
      refine WC.drawK 8 I0 [8] rfl (by kernel_rfl) rfl rfl ?_
      refine WA.take 0 rfl (by kernel_rfl) rfl (fun w h => (h.sub [8] rfl)) (Val.fldAddr rfl) rfl ?_
      refine WA.take 1 rfl (by kernel_rfl) rfl (fun w h => (h.sub [8] rfl)) (Val.loadS rfl (Rd.own1 0 rfl rfl)) rfl ?_
      refine WA.take 2 rfl (by kernel_rfl) rfl (fun w h => (h.sub [8] rfl)) (Val.moveP rfl) rfl ?_
      refine WA.take 3 rfl (by kernel_rfl) rfl (fun w h => (h.sub [8] rfl)) (Val.moveI rfl) rfl ?_
      refine WA.eff1 (i := 4) (by kernel_rfl) rfl rfl ?_
      refine WL.callR [1, 1, 1, 1, 1] rfl rfl rfl (tNode A hA _ _ (Nat.le_refl _) _ _ _ (by omega) htq) rfl ?_
      rintro v I2 hI2 ⟨kw, rfl, hw, hiw⟩
      have hw0 := hw
      obtain ⟨a3, c3, rfl⟩ := hw.sl
      refine WL.nil ?_
      refine WK.anyStep (fun w h => (h.sub [8] rfl).less (hI2)) ?_
      refine WA.eff1 (i := 5) (by kernel_rfl) rfl rfl ?_
      (refine WL.buildSlice (by with_unfolding_all exact rfl) rfl (by with_unfolding_all exact rfl) rfl ?_; intro _)
      rename_i g7
      refine WL.nApp ?_
      refine WL.nil ?_
      refine WK.anyStep (fun w h => (h.sub [8] rfl).less (hI2)) ?_
      refine WA.eff1 (i := 6) (by kernel_rfl) rfl rfl ?_
      refine WL.appOne (y := nd.kids[k]) (cs := [vi nd.kids[k].id, .bool nd.kids[k].grp, .slice a3 nd.kids[k].kids.length c3]) 9 10 rfl rfl (hp.mono hI2) rfl rfl (Nd.rep_iff.2 ⟨hiw, _, rfl, hw⟩) rfl rfl (by rfl) (by decide) (by rw [hwl]; omega) (by rw [hwl]; unfold maxLen; omega) rfl fun aa cc p' hp' => ?_
      refine WL.nSet ?_
      refine WL.nil ?_
      refine WK.anyStep (fun w h => (h.sub [8] rfl).less (hI2)) ?_
      refine WA.take 7 rfl (by kernel_rfl) rfl (fun w h => (h.sub [8] rfl).less (hI2)) (Val.fldAddr rfl) rfl ?_
      refine WA.eff1 (i := 8) (by kernel_rfl) rfl rfl ?_
      refine WL.stS 8 rfl rfl rfl rfl ?_
      refine WL.nil ?_
      refine WK.anyLast ?_
      refine WA.done (by kernel_rfl) ?_
      refine WX.inNormal ?_
      refine WX.thenC ?_
      refine WC.region ?_
      refine WL.val (Val.add rfl rfl (wrap_i64 (by omega) (by omega))) rfl ?_
      refine WL.val (Val.moveI rfl) rfl ?_
      refine WL.nil ?_
      rw [hwl] at hp' ⊢
      refine WX.conv (fun w h => h.sub [0, 0, 0, 0, 0, 0, 0, 0, 0, 0] rfl) ?_
      exact WX.thenK (WK.round (nd.kids.length - (k + 1)) (by omega) ⟨k + 1, aa, cc, p', rfl, by omega, hI.trans hI2, rfl, rfl, rfl, rfl, rfl, rfl, rfl, by rw [htk]; exact hp'⟩)
    · skip
      refine WC.seq ?_
      refine WC.region ?_
      refine WL.val (Val.lss rfl rfl (decide_eq_false (by omega))) rfl ?_
      refine WL.nil ?_
      refine WX.thenC ?_
      refine WC.seq ?_
      refine WC.condF rfl ?_
      refine WC.exit ?_
      refine WX.thenExit ?_
      refine WX.thenExit ?_
      refine WX.inHit ?_
      refine WX.thenC ?_
      refine WC.seq ?_
      refine WC.region ?_
      refine WL.val (Val.ldO 8 rfl rfl rfl) rfl ?_
      refine WL.stA 6 rfl rfl rfl rfl ?_
      refine WL.nil ?_
      refine WX.thenC ?_
      refine WC.ret ?_
      apply WX.doneP (ks := [0, 0, 0, 0, 0, 3])
      case hres => exact RunRes.r1 rfl (ResIs.cellL 6 rfl rfl rfl)
      case hI => first | exact Mem.le.refl _ | assumption
      have : k = nd.kids.length := by omega
      subst this
      rw [List.take_length] at hp
      exact ⟨a, c, pp, rfl, rfl, hp⟩
theorem aNodeO (A : Ar) (top : Nd) (hA : Abs A top) (I : Mem) :
    Ctr Try.prog 20 [ptr A.b, vi 0] I A.hp (NodeO A top fun v => .tuple #[v, .bool true]) := by
  obtain ⟨h1, h2⟩ := hA.find 0
  have hsz := hA.size_le
  rw [hA.find0] at h1 h2
  refine Ctr.intro Try.func20 rfl rfl rfl fun E F => ?_
  refine WC.seq ?_
  refine WC.region ?_
  (refine WL.alloc rfl ?_; intro _)
  refine WL.nApp ?_
  refine WL.val (Val.assignB rfl) rfl ?_
  refine WL.nil ?_
  refine WX.thenC ?_
  refine WC.seq ?_
  refine WC.region ?_
  refine WL.val (Val.moveP rfl) rfl ?_
  refine WL.val (Val.moveI rfl) rfl ?_
  refine WL.callK [1, 1, 1, 1, 1] rfl rfl rfl (tFind A 0 _) rfl ?_
  rintro _ rfl
  cases hat : A.at_ 0 with
  | none => rw [hat] at h1; cases h1
  | some p =>
    obtain ⟨n, rfl, hn'⟩ := hA.ok.at_lt 0 p hat
    obtain ⟨pp, ht⟩ := h2 n hat
    simp only [Option.getD_some, Option.isSome_some]
    refine WL.val (Val.moveT rfl) rfl ?_
    refine WL.val (Val.extractI rfl rfl) rfl ?_
    refine WL.val (Val.extractB rfl rfl) rfl ?_
    refine WL.val (Val.assignI rfl) rfl ?_
    refine WL.val (Val.assignB rfl) rfl ?_
    refine WL.nil ?_
    refine WX.thenC ?_
    refine WC.seq ?_
    refine WC.seq ?_
    refine WC.region ?_
    refine WL.val (Val.moveB rfl) rfl ?_
    refine WL.val (Val.not rfl) rfl ?_
    refine WL.nil ?_
    refine WX.thenC ?_
    refine WC.condF rfl ?_
    refine WC.skip ?_
    refine WX.thenC ?_
    refine WC.seq ?_
    refine WC.region ?_
    refine WL.val (Val.moveP rfl) rfl ?_
    refine WL.val (Val.moveI rfl) rfl ?_
    refine WL.callP [1, 1, 1, 1, 1] rfl rfl (tNodeO A hA.ok top _ _ _ (by omega) ht) rfl ?_
    rintro _ I2 _ hI2 ⟨a, c, q, rfl, rfl, hq⟩
    refine WL.nApp ?_
    refine WL.stA 1 rfl rfl rfl rfl ?_
    refine WL.val (Val.assignB rfl) rfl ?_
    refine WL.nil ?_
    refine WX.thenC ?_
    refine WC.ret ?_
    apply WX.doneP (ks := [1, 1, 1, 1, 1, 1])
    case hres => exact RunRes.r2 rfl (ResIs.cellL 1 rfl rfl rfl) (ResIs.tmpB rfl)
    case hI => first | exact Mem.le.refl _ | assumption
    exact ⟨a, c, q, rfl, rfl, hq⟩
end Go.Proofs.Ytfdeckdongonnab

/-
  Tree: TreeCopies.
-/

namespace Go.Sl
theorem Sat.fold {E : Ev} {w : World} {I : Mem} {l' : List HP} (l : List HP) (h : Sat E w I (l ++ l')) : Sat E w I (sts l :: l') := h.imp fun m hm => sts_fold hm
theorem Sat.unfold {E : Ev} {w : World} {I : Mem} {l l' : List HP} (h : Sat E w I (sts l :: l')) : Sat E w I (l ++ l') := h.imp fun m hm => sts_unfold hm
end Go.Sl
namespace Go.Proofs.Ytfdeckdongonnab
open Go.Sl Go.Ls Go.Tr
set_option maxRecDepth 100000
set_option maxHeartbeats 8000000
set_option linter.unusedVariables false
-- PICKB
attribute [local irreducible] WC WL WX WK WA WAK Val Ctr RunRes ResIs Rd At sl box pt Exit.then Exit.inBlock bodyPost Code.wp wpList
theorem tCopies (l more : List Opn) (lv mv : Value) (I : Mem) (hlv : LsAt Opn.rep I l lv) (hmv : LsAt Opn.rep I more mv) :
    Ctr Try.prog 5 [lv, mv] I [] (KeepR [] fun v _ => v = .bool true) := by
  obtain ⟨a1, c1, rfl⟩ := hlv.sl
  obtain ⟨a2, c2, rfl⟩ := hmv.sl
  refine Ctr.intro Try.func5 rfl rfl rfl fun E F => ?_
  refine WC.seq ?_
  refine WC.region ?_
  refine WL.val (Val.assignB rfl) rfl ?_
  refine WL.nil ?_
  refine WX.thenC ?_
  refine WC.seq ?_
  refine WC.seq ?_
  refine WC.region ?_
  refine WL.val (Val.moveS rfl) rfl ?_
  refine WL.callE rfl rfl (rSmall l _ _ hlv) rfl (fun hs => ?_) (fun hs => ?_)
  case refine_2 =>
    refine WL.val (Val.not rfl) rfl ?_
    refine WL.val (Val.moveB rfl) rfl ?_
    refine WL.gF rfl rfl rfl rfl ?_
    refine WL.gF rfl rfl rfl rfl ?_
    refine WL.gF rfl rfl rfl rfl ?_
    refine WL.val (Val.pickBT rfl rfl) rfl ?_
    refine WL.nil ?_
    refine WX.thenC ?_
    refine WC.condT rfl ?_
    refine WC.seq ?_
    refine WC.region ?_
    refine WL.callP [] rfl rfl (tAwake _) rfl ?_
    rintro _ I2 _ hI2 ⟨rfl, rfl⟩
    refine WL.nApp ?_
    refine WL.val (Val.assignB rfl) rfl ?_
    refine WL.nil ?_
    refine WX.thenC ?_
    refine WC.ret ?_
    refine WX.thenRet ?_
    apply WX.doneP (ks := [])
    case hres => exact RunRes.r1 rfl (ResIs.tmpB rfl)
    case hI => first | exact Mem.le.refl _ | assumption
    exact ⟨rfl, rfl⟩
  refine WL.val (Val.not rfl) rfl ?_
  refine WL.val (Val.moveB rfl) rfl ?_
  refine WL.gT rfl rfl ?_
  refine WL.val (Val.moveS rfl) rfl ?_
  refine WL.gT rfl rfl ?_
  refine WL.callE rfl rfl (rSmall more _ _ hmv) rfl (fun hs2 => ?_) (fun hs2 => ?_)
  case refine_2 =>
    refine WL.gT rfl rfl ?_
    refine WL.val (Val.not rfl) rfl ?_
    refine WL.val (Val.pickBF rfl rfl) rfl ?_
    refine WL.nil ?_
    refine WX.thenC ?_
    refine WC.condT rfl ?_
    refine WC.seq ?_
    refine WC.region ?_
    refine WL.callP [] rfl rfl (tAwake _) rfl ?_
    rintro _ I2 _ hI2 ⟨rfl, rfl⟩
    refine WL.nApp ?_
    refine WL.val (Val.assignB rfl) rfl ?_
    refine WL.nil ?_
    refine WX.thenC ?_
    refine WC.ret ?_
    refine WX.thenRet ?_
    apply WX.doneP (ks := [])
    case hres => exact RunRes.r1 rfl (ResIs.tmpB rfl)
    case hI => first | exact Mem.le.refl _ | assumption
    exact ⟨rfl, rfl⟩
  refine WL.gT rfl rfl ?_
  refine WL.val (Val.not rfl) rfl ?_
  refine WL.val (Val.pickBF rfl rfl) rfl ?_
  refine WL.nil ?_
  refine WX.thenC ?_
  refine WC.condF rfl ?_
  refine WC.skip ?_
  refine WX.thenC ?_
  refine WC.seq ?_
  refine WC.region ?_
  refine WL.val (Val.moveS rfl) rfl ?_
  refine WL.callP [] rfl rfl (tPlay l _ _ hlv hs.2 (by have := hs.1; omega)) rfl ?_
  rintro _ I1 _ hI1 ⟨A, top, kv, rfl, hkv, rfl, hA, hr⟩
  obtain ⟨ka, kc, rfl⟩ := hkv.sl
  have hsz := hA.size_le
  have hm40 := hs2.1
  have hkl1 := Nd.len_le_sizes top.kids
  have hkl2 := sizes_lt top
  have hit : I64 top.id := by rw [hA.id0]; exact ⟨by decide, by decide⟩
  refine WL.nApp ?_
  refine WL.val (Val.moveT rfl) rfl ?_
  refine WL.val (Val.extractP rfl rfl) rfl ?_
  refine WL.val (Val.extractA rfl rfl) rfl ?_
  refine WL.val (Val.extractB rfl rfl) rfl ?_
  (refine WL.alloc rfl ?_; intro _)
  refine WL.nApp ?_
  refine WL.val (Val.assignP rfl) rfl ?_
  refine WL.stA 6 rfl rfl rfl rfl ?_
  refine WL.val (Val.assignB rfl) rfl ?_
  refine WL.nil ?_
  refine WX.thenC ?_
  refine WC.seq ?_
  refine WC.seq ?_
  refine WC.region ?_
  refine WL.val (Val.moveB rfl) rfl ?_
  refine WL.val (Val.not rfl) rfl ?_
  refine WL.nil ?_
  refine WX.thenC ?_
  refine WC.condF rfl ?_
  refine WC.skip ?_
  refine WX.thenC ?_
  refine WC.seq ?_
  refine WC.region ?_
  refine WL.val (Val.moveP rfl) rfl ?_
  rename_i g6
  refine WL.callP [1, 1, 1, 1, 1] rfl rfl (tCopy A top hA _) rfl ?_
  rintro _ I2 _ _ ⟨rfl, C, hlike, rfl, rfl⟩
  have hC := hlike.abs hA
  refine WL.nApp ?_
  refine WL.conv (fun w h => Sat.fold C.hp (h.sub [7, 7, 7, 7, 7, 0, 0, 0, 0, 0, 0, 0] rfl)) ?_
  refine WL.val (Val.assignP rfl) rfl ?_
  refine WL.nil ?_
  refine WX.thenC ?_
  refine WC.seq ?_
  refine WC.region ?_
  refine WL.val (Val.ldO 2 rfl rfl rfl) rfl ?_
  (refine WL.alloc rfl ?_; intro _)
  refine WL.nApp ?_
  refine WL.stA 8 rfl rfl rfl rfl ?_
  refine WL.nil ?_
  refine WX.thenC ?_
  refine WC.seq ?_
  refine WC.seq ?_
  refine WC.region ?_
  refine WL.val (Val.moveS rfl) rfl ?_
  refine WL.val (Val.len rfl) rfl ?_
  refine WL.val (Val.moveI rfl) rfl ?_
  refine WL.nil ?_
  refine WX.thenC ?_
  refine WC.block ?_
  rename_i g9
  refine WC.conv (fun w h => Sat.fold (box g6 39 [vi top.id, Value.bool top.grp, Value.slice ka top.kids.length kc] :: C.hp) ((Sat.unfold h).sub [6, 0, 0, 0, 0, 0, 0, 5, 0, 0, 0, 0, 0] rfl)) ?_
  refine WC.loop (fun m ρ' I' L' => ∃ (k : Nat) (B : Ar) (topB : Nd) (ya : Option Addr) (yc : Nat), m = more.length - k ∧ k ≤ more.length ∧ I2.le I' ∧ ρ' 5 = ptr B.b ∧ ρ' 6 = ptr g6 ∧ ρ' 8 = ptr C.b ∧ ρ' 9 = ptr g9 ∧ ρ' 41 = .slice a2 more.length c2 ∧ ρ' 42 = vi more.length ∧ ρ' 43 = vi k ∧
      L' = sts (box g6 39 [vi top.id, Value.bool top.grp, Value.slice ka top.kids.length kc] :: C.hp) :: F :: box g9 39 [vi topB.id, .bool topB.grp, .slice ya topB.kids.length yc] :: B.hp ∧ LsAt Nd.Rp I' topB.kids (.slice ya topB.kids.length yc) ∧ Abs B topB)
    more.length ⟨0, A, top, ka, kc, rfl, by omega, Mem.le.refl _, rfl, rfl, rfl, rfl, rfl, rfl, rfl, rfl, hkv, hA⟩ ?_
  rintro m ρ' I' L' ⟨k, B, topB, ya, yc, rfl, hk, hI', r5, r6, r8, r9, r41, r42, r43, rfl, htv, hB⟩
  rw [← upd_self r43, ← upd_self r42, ← upd_self r41, ← upd_self r9, ← upd_self r8, ← upd_self r6, ← upd_self r5]
  clear r43 r42 r41 r9 r8 r6 r5
  by_cases hkn : k < more.length
  · obtain ⟨b, off, cap', cs, he, hR, hAt⟩ := ((hmv.mono hI1).mono hI').get k hkn
    cases he
    have hR0 := hR
    obtain ⟨nv, rfl, hi1, hi2, hi3, hi4, hi5, hns⟩ := hR0
    obtain ⟨a3, c3, rfl⟩ := hns.sl
    refine WC.seq ?_
    refine WC.region ?_
    refine WL.val (Val.lss rfl rfl (decide_eq_true (by omega))) rfl ?_
    refine WL.nil ?_
    refine WX.thenC ?_
    refine WC.seq ?_
    refine WC.condT rfl ?_
    refine WC.skip ?_
    refine WX.thenC ?_
    refine WC.seq ?_
    refine WC.block ?_
    refine WC.seq ?_
    refine WC.region ?_
    refine WL.val (Val.indexAddr rfl rfl (by omega) (by omega)) rfl ?_
    refine WL.val (Val.loadI rfl (by assumption) rfl) rfl ?_
    (refine WL.alloc rfl ?_; intro _)
    refine WL.nApp ?_
    refine WL.stA 8 rfl rfl rfl rfl ?_
    refine WL.nil ?_
    refine WX.thenC ?_
    refine WC.seq ?_
    refine WC.region ?_
    refine WL.val (Val.moveP rfl) rfl ?_
    refine WL.val (Val.ldO 2 rfl rfl rfl) rfl ?_
    refine WL.val (Val.ldO 8 rfl rfl rfl) rfl ?_
    rename_i g11
    refine WL.callP [3, 3, 3, 3, 3] rfl rfl (tStep B topB hB _ more[k] _ _ htv hR (hs2.2 _ (List.getElem_mem hkn))) rfl ?_
    rintro _ I3 _ hI3 ⟨B', top', kv', rfl, hkv', hb, rfl, hB', hst⟩
    obtain ⟨qa, qc, rfl⟩ := hkv'.sl
    rw [← hb]
    refine WL.nApp ?_
    refine WL.val (Val.moveT rfl) rfl ?_
    refine WL.val (Val.extractA rfl rfl) rfl ?_
    refine WL.val (Val.extractB rfl rfl) rfl ?_
    (refine WL.alloc rfl ?_; intro _)
    refine WL.nApp ?_
    refine WL.stA 9 rfl rfl rfl rfl ?_
    refine WL.val (Val.assignB rfl) rfl ?_
    refine WL.nil ?_
    refine WX.thenC ?_
    refine WC.seq ?_
    refine WC.seq ?_
    refine WC.region ?_
    refine WL.val (Val.moveB rfl) rfl ?_
    refine WL.val (Val.not rfl) rfl ?_
    refine WL.nil ?_
    refine WX.thenC ?_
    refine WC.condF rfl ?_
    refine WC.skip ?_
    refine WX.thenC ?_
    refine WC.region ?_
    refine WL.val (Val.ldO 9 rfl rfl rfl) rfl ?_
    refine WL.stA 2 rfl rfl rfl rfl ?_
    refine WL.nil ?_
    refine WX.inNormal ?_
    refine WX.thenC ?_
    refine WC.region ?_
    refine WL.val (Val.add rfl rfl (wrap_i64 (by omega) (by omega))) rfl ?_
    refine WL.val (Val.moveI rfl) rfl ?_
    refine WL.nil ?_
    rename_i g12
    refine WX.conv (fun w h => h.sub [0, 0, 0, 1, 1, 1, 1, 1] rfl) ?_
    refine WX.thenK (WK.round (more.length - (k + 1)) (by omega) ⟨k + 1, B', top', qa, qc, rfl, by omega, hI'.trans hI3, rfl, rfl, rfl, rfl, rfl, rfl, rfl, rfl, hkv', hB'⟩)
  · have hkl : k = more.length := by omega
    subst hkl
    refine WC.conv (fun w h => Sat.fold (box g6 39 [vi top.id, Value.bool top.grp, Value.slice ka top.kids.length kc] :: box g9 39 [vi topB.id, .bool topB.grp, .slice ya topB.kids.length yc] :: B.hp) ((Sat.unfold h).sub [0, 6, 6, 6, 6, 6, 6, 5, 0, 0, 0, 0, 0] rfl)) ?_
    refine WC.seq ?_
    refine WC.region ?_
    refine WL.val (Val.lss rfl rfl (decide_eq_false (by omega))) rfl ?_
    refine WL.nil ?_
    refine WX.thenC ?_
    refine WC.seq ?_
    refine WC.condF rfl ?_
    refine WC.exit ?_
    refine WX.thenExit ?_
    refine WX.thenExit ?_
    refine WX.inHit ?_
    refine WX.thenC ?_
    refine WC.seq ?_
    refine WC.region ?_
    refine WL.val (Val.moveP rfl) rfl ?_
    refine WL.callP [2, 2, 2, 2, 2] rfl rfl (aNodeO C top hC _) rfl ?_
    rintro _ I3 _ hI3 ⟨ma, mc, pp, rfl, rfl, hpp⟩
    obtain ⟨css, rfl, _⟩ := hpp
    refine WL.nApp ?_
    refine WL.val (Val.moveT rfl) rfl ?_
    refine WL.val (Val.extractA rfl rfl) rfl ?_
    refine WL.val (Val.extractB rfl rfl) rfl ?_
    (refine WL.alloc rfl ?_; intro _)
    refine WL.nApp ?_
    refine WL.stA 8 rfl rfl rfl rfl ?_
    refine WL.val (Val.assignB rfl) rfl ?_
    refine WL.nil ?_
    refine WX.thenC ?_
    refine WC.seq ?_
    refine WC.region ?_
    refine WL.val (Val.moveP rfl) rfl ?_
    rename_i g14
    refine WL.conv (fun w h => Sat.fold (box g6 39 [vi top.id, Value.bool top.grp, Value.slice ka top.kids.length kc] :: box g9 39 [vi topB.id, .bool topB.grp, .slice ya topB.kids.length yc] :: C.hp) ((Sat.unfold h).sub [0, 0, 6, 6, 6, 6, 6, 5, 5, 5, 0, 0, 0, 0, 0] rfl)) ?_
    refine WL.callR [4, 4, 4, 4, 4] rfl rfl rfl (aNode B topB hB 0 _) rfl ?_
    rintro _ I4 hI4 ⟨_, rfl, kn, rfl, hkn2, hin2⟩
    rw [hB.find0] at hkn2 hin2 ⊢
    simp only [Option.isSome, Option.getD] at hkn2 hin2 ⊢
    obtain ⟨na, nc, rfl⟩ := hkn2.sl
    refine WL.val (Val.moveT rfl) rfl ?_
    refine WL.val (Val.extractA rfl rfl) rfl ?_
    refine WL.val (Val.extractB rfl rfl) rfl ?_
    (refine WL.alloc rfl ?_; intro _)
    refine WL.nApp ?_
    refine WL.stA 9 rfl rfl rfl rfl ?_
    refine WL.val (Val.assignB rfl) rfl ?_
    refine WL.nil ?_
    refine WX.thenC ?_
    refine WC.seq ?_
    refine WC.seq ?_
    refine WC.region ?_
    refine WL.val (Val.fldAddr rfl) rfl ?_
    refine WL.val (Val.loadS rfl (Rd.own1 3 rfl rfl)) rfl ?_
    refine WL.val (Val.len rfl) rfl ?_
    refine WL.val (Val.moveI rfl) rfl ?_
    refine WL.nil ?_
    refine WX.thenC ?_
    refine WC.block ?_
    rename_i g16
    refine WC.slOpen 2 rfl fun ma' mc' hmv' hmg _ => ?_
    cases hmv'
    refine WC.loop (fun m ρ' I' L' => ∃ (j : Nat) (xs : List Value), m = top.kids.length - j ∧ j ≤ top.kids.length ∧ I' = I4 ∧ ρ' 6 = ptr g6 ∧ ρ' 8 = ptr C.b ∧ ρ' 9 = ptr g9 ∧ ρ' 14 = ptr g14 ∧ ρ' 16 = ptr g16 ∧ ρ' 70 = vi top.kids.length ∧ ρ' 71 = vi j ∧
        L' = sts (box g6 39 [vi top.id, Value.bool top.grp, Value.slice ka top.kids.length kc] :: box g9 39 [vi topB.id, .bool topB.grp, .slice ya topB.kids.length yc] :: C.hp) :: F :: sl 29 3 (.slice ma top.kids.length mc) top.kids.length xs :: box g14 29 [vi top.id, .bool top.grp, .slice ma top.kids.length mc] :: B.on [box g16 29 [vi topB.id, .bool topB.grp, .slice na topB.kids.length nc]])
      top.kids.length ⟨0, _, rfl, by omega, rfl, rfl, rfl, rfl, rfl, rfl, rfl, rfl, rfl⟩ ?_
    rintro m ρ' _ L' ⟨j, xs, rfl, hj, rfl, r6, r8, r9, r14, r16, r70, r71, rfl⟩
    rw [← upd_self r71, ← upd_self r70, ← upd_self r16, ← upd_self r14, ← upd_self r9, ← upd_self r8, ← upd_self r6]
    clear r71 r70 r16 r14 r9 r8 r6
    by_cases hjn : j < top.kids.length
    · obtain ⟨g, rfl⟩ := hmg (by omega)
      refine WC.seq ?_
      refine WC.region ?_
      refine WL.val (Val.lss rfl rfl (decide_eq_true (by omega))) rfl ?_
      refine WL.nil ?_
      refine WX.thenC ?_
      refine WC.seq ?_
      refine WC.condT rfl ?_
      refine WC.skip ?_
      refine WX.thenC ?_
      refine WC.seq ?_
      refine WC.block ?_
      refine WC.seq ?_
      refine WC.region ?_
      refine WL.val (Val.moveI rfl) rfl ?_
      refine WL.val (Val.assignI rfl) rfl ?_
      refine WL.nil ?_
      refine WX.thenC ?_
      refine WC.region ?_
      refine WL.val (Val.fldAddr rfl) rfl ?_
      refine WL.val (Val.loadS rfl (Rd.own1 3 rfl rfl)) rfl ?_
      refine WL.val (Val.moveI rfl) rfl ?_
      refine WL.val (Val.indexAddr rfl rfl (by omega) (by omega)) rfl ?_
      refine WL.val (Val.fldAddr rfl) rfl ?_
      refine WL.storeSl 2 rfl rfl rfl rfl (by show 0 + (j : Int).toNat * 3 + 0 + 1 ≤ top.kids.length * 3; rw [Int.toNat_natCast]; omega) ?_
      refine WL.nSet ?_
      refine WL.nil ?_
      refine WX.inNormal ?_
      refine WX.thenC ?_
      refine WC.region ?_
      refine WL.val (Val.add rfl rfl (wrap_i64 (by omega) (by omega))) rfl ?_
      refine WL.val (Val.moveI rfl) rfl ?_
      refine WL.nil ?_
      exact WX.thenK (WK.round (top.kids.length - (j + 1)) (by omega) ⟨j + 1, _, rfl, by omega, rfl, rfl, rfl, rfl, rfl, rfl, rfl, rfl, rfl⟩)
    · refine WC.conv (fun w h => (Sat.unfold h).sub [7, 0, 0, 12, 0, 0, 0, 0, 0] rfl) ?_
      refine WC.seq ?_
      refine WC.region ?_
      refine WL.val (Val.lss rfl rfl (decide_eq_false (by omega))) rfl ?_
      refine WL.nil ?_
      refine WX.thenC ?_
      refine WC.seq ?_
      refine WC.condF rfl ?_
      refine WC.exit ?_
      refine WX.thenExit ?_
      refine WX.thenExit ?_
      refine WX.inHit ?_
      refine WX.thenC ?_
      refine WC.seq ?_
      refine WC.region ?_
      refine WL.val (Val.moveP rfl) rfl ?_
      refine WL.callR [4, 4, 4, 4, 4] rfl rfl rfl (aNode C top hC 0 _) rfl ?_
      rintro _ I5 hI5 ⟨_, rfl, kn5, rfl, hkn5, hin5⟩
      rw [hC.find0] at hkn5 hin5 ⊢
      simp only [Option.isSome, Option.getD] at hkn5 hin5 ⊢
      obtain ⟨na5, nc5, rfl⟩ := hkn5.sl
      refine WL.val (Val.moveT rfl) rfl ?_
      refine WL.val (Val.extractA rfl rfl) rfl ?_
      refine WL.val (Val.extractB rfl rfl) rfl ?_
      (refine WL.alloc rfl ?_; intro _)
      refine WL.nApp ?_
      refine WL.stA 9 rfl rfl rfl rfl ?_
      refine WL.val (Val.assignB rfl) rfl ?_
      refine WL.nil ?_
      refine WX.thenC ?_
      refine WC.seq ?_
      refine WC.drawK 999 I5 [1, 1, 1, 6] rfl (by kernel_rfl) rfl rfl ?_
      refine WA.take 0 rfl (by kernel_rfl) rfl (fun w h => (h.sub [1, 1, 1, 6] rfl)) (Val.ldO 3 rfl rfl rfl) rfl ?_
      refine WA.take 1 rfl (by kernel_rfl) rfl (fun w h => (h.sub [1, 1, 1, 6] rfl)) (Val.ldO 0 rfl rfl rfl) rfl ?_
      refine WA.eff1 (i := 2) (by kernel_rfl) rfl rfl ?_
      refine WL.callE rfl rfl (rSame _ _ (Nat.le_refl _) _ _ _ _ (by omega) hin5 hkn5 hin5 (hkv.mono (hI'.trans (hI3.trans (hI4.trans hI5))))) rfl (fun h => ?_) (fun h => absurd rfl h)
      refine WL.nil ?_
      refine WK.anyStep (fun w h => (h.sub [1, 1, 1, 6] rfl)) ?_
      refine WA.take 3 rfl (by kernel_rfl) rfl (fun w h => (h.sub [1, 1, 1, 6] rfl)) (Val.moveB rfl) rfl ?_
      refine WA.takeGT 4 rfl (by kernel_rfl) rfl (fun w h => (h.sub [1, 1, 1, 6] rfl)) rfl rfl (Val.ldO 2 rfl rfl rfl) rfl ?_
      refine WA.takeGT 5 rfl (by kernel_rfl) rfl (fun w h => (h.sub [1, 1, 1, 6] rfl)) rfl rfl (Val.ldO 1 rfl rfl rfl) rfl ?_
      refine WA.eff1 (i := 6) (by kernel_rfl) rfl rfl ?_
      refine WL.gT rfl rfl ?_
      refine WL.callE rfl rfl (rSame _ _ (Nat.le_refl _) _ _ _ _ (by have := hB.size_le; omega) hin2 (hkn2.mono hI5) hin2 (htv.mono (hI3.trans (hI4.trans hI5)))) rfl (fun h => ?_) (fun h => absurd rfl h)
      refine WL.nil ?_
      refine WK.anyStep (fun w h => (h.sub [1, 1, 1, 6] rfl)) ?_
      refine WA.take 7 rfl (by kernel_rfl) rfl (fun w h => (h.sub [1, 1, 1, 6] rfl)) (Val.pickBT rfl rfl) rfl ?_
      refine WA.take 8 rfl (by kernel_rfl) rfl (fun w h => (h.sub [1, 1, 1, 6] rfl)) (Val.moveB rfl) rfl ?_
      refine WA.takeGT 9 rfl (by kernel_rfl) rfl (fun w h => (h.sub [1, 1, 1, 6] rfl)) rfl rfl (Val.moveP rfl) rfl ?_
      refine WA.takeGT 11 rfl (by kernel_rfl) rfl (fun w h => (h.sub [1, 1, 1, 6] rfl)) rfl rfl (Val.ldO 0 rfl rfl rfl) rfl ?_
      refine WA.eff1 (i := 10) (by kernel_rfl) rfl rfl ?_
      refine WL.gT rfl rfl ?_
      refine WL.callK [4, 4, 4, 4, 4] rfl rfl rfl (aCount C top hC _) rfl ?_
      rintro _ rfl
      refine WL.nil ?_
      refine WK.anyStep (fun w h => (h.sub [1, 1, 1, 6] rfl)) ?_
      refine WA.eff1 (i := 12) (by kernel_rfl) rfl rfl ?_
      refine WL.gT rfl rfl ?_
      refine WL.callS rfl rfl (rSize _ top (Nat.le_refl _) _ _ (by omega) hin5 (hkv.mono (hI'.trans (hI3.trans (hI4.trans hI5))))) rfl ?_
      rintro _ rfl
      refine WL.nil ?_
      refine WK.anyStep (fun w h => (h.sub [1, 1, 1, 6] rfl)) ?_
      refine WA.takeGT 13 rfl (by kernel_rfl) rfl (fun w h => (h.sub [1, 1, 1, 6] rfl)) rfl rfl (Val.sub rfl rfl (wrap_i64 (by omega) (by omega))) rfl ?_
      refine WA.takeGT 14 rfl (by kernel_rfl) rfl (fun w h => (h.sub [1, 1, 1, 6] rfl)) rfl rfl (Val.eql rfl rfl (beq_iff_eq.2 (by omega))) rfl ?_
      refine WA.take 15 rfl (by kernel_rfl) rfl (fun w h => (h.sub [1, 1, 1, 6] rfl)) (Val.pickBT rfl rfl) rfl ?_
      refine WA.take 16 rfl (by kernel_rfl) rfl (fun w h => (h.sub [1, 1, 1, 6] rfl)) (Val.moveB rfl) rfl ?_
      refine WA.eff1 (i := 17) (by kernel_rfl) rfl rfl ?_
      refine WL.gT rfl rfl ?_
      refine WL.callP [] rfl rfl (tAwake _) rfl ?_
      rintro _ I6 _ hI6 ⟨rfl, rfl⟩
      refine WL.nApp ?_
      refine WL.nil ?_
      refine WK.anyStep (fun w h => (h.sub [1, 1, 1, 6] rfl).less (hI6)) ?_
      refine WA.take 18 rfl (by kernel_rfl) rfl (fun w h => (h.sub [1, 1, 1, 6] rfl).less (hI6)) (Val.pickBT rfl rfl) rfl ?_
      refine WA.take 19 rfl (by kernel_rfl) rfl (fun w h => (h.sub [1, 1, 1, 6] rfl).less (hI6)) (Val.assignB rfl) rfl ?_
      refine WA.done (by kernel_rfl) ?_
      refine WX.thenC ?_
      refine WC.ret ?_
      have hJ := hI1.trans (hI'.trans (hI3.trans (hI4.trans (hI5.trans hI6))))
      apply WX.doneP (ks := [])
      case hres => exact RunRes.r1 rfl (ResIs.tmpB rfl)
      case hI => first | exact Mem.le.refl _ | assumption
      exact ⟨rfl, rfl⟩
end Go.Proofs.Ytfdeckdongonnab
