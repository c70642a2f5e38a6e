/-
  Tree, the program's: lay.
-/
import Derived.Test.YtggcpoleklcmkaaGreatDoorY2
import Derived.Test.YtggcpoleklcmkaaGreatDoorX3
import Derived.Test.YtggcpoleklcmkaaGreatDoorX2
namespace Go.Sl
open Go.Ls
theorem Sat.slShrink {E : Ev} {w : World} {I : Mem} {L : List HP} {e sz n m cap g : Nat} {xs : List Value} (k : Nat) (hL : L[k]? = some (sl e sz (.slice (some ⟨g, 0, none⟩) n cap) n xs)) (hm : m ≤ n) (h : Sat E w I L) : Sat E w I (L.set k (sl e sz (.slice (some ⟨g, 0, none⟩) m cap) m (xs.take (m * sz)))) := by
  obtain ⟨cs, c1, c2, c3, c4, hw⟩ := h.slOut k hL
  have hlt : k < L.length := (List.getElem?_eq_some_iff.1 hL).1
  have hg : (L.set k (Sl.box g e cs))[k]? = some (Sl.box g e cs) := by simp [hlt]
  have h2 := hw.slIn (n := m) (cap := cap) k hg c1 (Nat.le_trans hm c3) c4
  rw [List.set_set] at h2
  rw [← c2, List.take_take, Nat.min_eq_left (Nat.mul_le_mul_right _ hm)]
  exact h2
theorem WL.slShrink {Γ : Cx} {ops : Array Oper} {rest : List Oper} {ρ : Nat → Value} {I : Mem} {L : List HP} {Q : Post} {e sz n m cap g : Nat} {xs : List Value} (k : Nat) (hL : L[k]? = some (sl e sz (.slice (some ⟨g, 0, none⟩) n cap) n xs)) (hm : m ≤ n) (next : WL Γ ops rest ρ I (L.set k (sl e sz (.slice (some ⟨g, 0, none⟩) m cap) m (xs.take (m * sz)))) Q) : WL Γ ops rest ρ I L Q :=
  fun a w ha hw => next a w ha (hw.slShrink k hL hm)
theorem WC.slCap {Γ : Cx} {c : Code} {ρ : Nat → Value} {I : Mem} {L : List HP} {Q : Post} {e sz n cap g : Nat} {xs : List Value} (k : Nat) (hL : L[k]? = some (sl e sz (.slice (some ⟨g, 0, none⟩) n cap) n xs)) (next : n ≤ cap → WC Γ c ρ I L Q) : WC Γ c ρ I L Q := fun a w ha hw => by
  obtain ⟨m, hm, h1, h2⟩ := (hw.perm (pull k L _ hL)).head
  rcases h2 with ⟨h0, _⟩ | ⟨g', cap', cur, hv, _, h3, _⟩
  · cases h0
  · injection hv with _ _ hc
    subst hc
    exact next h3 a w ha hw
end Go.Sl
namespace Go.Tr
open Go.Sl Go.Ls
theorem Ar.own_hp (A : Ar) (i : Nat) (id : Int) (g : Bool) (p : Int) (hi : i < A.cells.length) : (A.own i id g p).hp = [box A.b 145 [A.cv, A.fv, .map (some A.mb)], sl 191 4 A.cv A.cells.length (splice A.flat (0 + (i : Int).toNat * 4) [vi id, .bool g, vi p, .slice none 0 0]),
    sl 3 1 A.fv A.free.length (A.free.map vi), mp A.mb (Sl.put A.look id (vi i)) (if (A.look id).isSome then A.cnt else A.cnt + 1), sts ((A.cells.map Cel.row).set i (sl 3 1 (.slice none 0 0) 0 []))] := by
  have e1 : (A.own i id g p).cells.length = A.cells.length := by simp [Ar.own]
  have e2 : (A.own i id g p).flat = splice A.flat (0 + (i : Int).toNat * 4) [vi id, .bool g, vi p, .slice none 0 0] := by
    have := flat_splice (by decide) (A.cells.map Cel.cs) A.flat_len i 0 [vi id, .bool g, vi p, .slice none 0 0] (by simpa using hi) (by simp)
    rw [Nat.zero_add, Int.toNat_natCast]
    rw [Nat.add_zero] at this
    rw [Ar.flat, Ar.flat, this, Ar.own, List.map_set, List.getElem_map]
    rfl
  have e3 : (A.own i id g p).cells.map Cel.row = (A.cells.map Cel.row).set i (sl 3 1 (.slice none 0 0) 0 []) := by
    rw [Ar.own, List.map_set]; rfl
  have e4 : (A.own i id g p).look = Sl.put A.look id (vi i) := by
    funext k
    simp only [Ar.look, Ar.own, Sl.put]
    by_cases hk : k = id
    · rw [if_pos hk, if_pos hk]; rfl
    · rw [if_neg hk, if_neg hk]
  have e5 : (A.own i id g p).cnt = if (A.look id).isSome then A.cnt else A.cnt + 1 := by
    simp only [Ar.own, Ar.look, Option.isSome_map]
  simp only [Ar.hp, Ar.cv, e1, e2, e3, e4, e5]
  rfl
theorem Ar.push_hp (A : Ar) (g c : Nat) : ({ A with cells := A.cells ++ [zeroCel], cg := g, cc := c } : Ar).hp = [box A.b 145 [.slice (some ⟨g, 0, none⟩) (A.cells.length + 1) c, A.fv, .map (some A.mb)], sl 191 4 (.slice (some ⟨g, 0, none⟩) (A.cells.length + 1) c) (A.cells.length + 1) (A.flat ++ [vi 0, .bool false, vi 0, .slice none 0 0]),
    sl 3 1 A.fv A.free.length (A.free.map vi), mp A.mb A.look A.cnt, sts (A.cells.map Cel.row ++ [sl 3 1 (.slice none 0 0) 0 []])] := by
  have e1 : (A.cells ++ [zeroCel]).length = A.cells.length + 1 := by simp
  have e2 : ((A.cells ++ [zeroCel]).map Cel.cs).flatten = A.flat ++ [vi 0, .bool false, vi 0, .slice none 0 0] := by
    rw [List.map_append, List.flatten_append]; rfl
  have e3 : (A.cells ++ [zeroCel]).map Cel.row = A.cells.map Cel.row ++ [sl 3 1 (.slice none 0 0) 0 []] := by
    rw [List.map_append]; rfl
  simp only [Ar.hp, Ar.cv, Ar.flat, e1, e3]
  have e2' := e2
  rw [Ar.flat] at e2'
  rw [e2']
  rfl
end Go.Tr
namespace Go.Proofs.YtggcpoleklcmkaaGreatDoor
open Go.Sl Go.Ls Go.Tr
set_option maxRecDepth 100000
set_option maxHeartbeats 4000000
set_option linter.unusedVariables false
set_option linter.unusedSimpArgs false
attribute [local irreducible] WC WL WX WK WA WAK Val Ctr RunRes ResIs Rd At sl box pt Exit.then Exit.inBlock bodyPost Code.wp wpList
theorem tLay (N : Nat) : ∀ (nd : Nd), nd.size ≤ N → ∀ (A : Ar) (p : Int) (kv : Value) (I : Mem), nd.size ≤ 1000000000 → LayOk A nd → LsAt Nd.Rp I nd.kids kv →
    Ctr Tryz.prog 143 [ptr A.b, .agg #[vi nd.id, .bool nd.grp, kv], vi p] I A.hp (fun v I' L' => ∃ A' i, v = vi (i : Nat) ∧ L' = A'.hp ∧ Laid A A' p i nd) := by
  induction N with
  | zero => intro nd h; have := nd.size_pos; omega
  | succ N ih =>
    intro nd hs A p kv I hb hA hkv
    obtain ⟨ka, kc, rfl⟩ := hkv.sl
    have hsz := sizes_lt nd
    have hll := Nd.len_le_sizes nd.kids
    have hlen := hA.len
    have hnid : A.at_ nd.id = none := hA.at_ _ (Nd.id_mem nd)
    refine Ctr.intro Tryz.func143 rfl rfl rfl fun E F => ?_
    refine WC.seq ?_
    refine WC.region ?_
    (refine WL.boxA rfl rfl ?_; intro _)
    refine WL.nApp ?_
    refine WL.val (Val.assignI rfl) rfl ?_
    refine WL.nil ?_
    refine WX.thenC ?_
    refine WC.seq ?_
    refine WC.region ?_
    refine WL.val (Val.moveP rfl) rfl ?_
    refine WL.val (Val.nilCheckP rfl) rfl ?_
    refine WL.val (Val.fldAddr rfl) rfl ?_
    refine WL.val (Val.loadS rfl (Rd.own1 1 rfl rfl)) rfl ?_
    refine WL.val (Val.len rfl) rfl ?_
    refine WL.val (Val.assignI rfl) rfl ?_
    refine WL.nil ?_
    refine WX.thenC ?_
    refine WC.seq ?_
    refine WC.seq ?_
    refine WC.region ?_
    refine WL.val (Val.moveP rfl) rfl ?_
    refine WL.val (Val.nilCheckP rfl) rfl ?_
    refine WL.val (Val.fldAddr rfl) rfl ?_
    refine WL.val (Val.loadS rfl (Rd.own1 1 rfl rfl)) rfl ?_
    rename_i g4
    have hz : A.cells.length ≤ 1000000000 := by omega
    have hfle := hA.frl
    refine WL.slOpen 3 rfl fun fa fc hfv => ?_
    rw [hfv]
    refine WL.val (Val.len rfl) rfl ?_
    refine WL.val (Val.sub rfl rfl (wrap_i64 (by omega) (by omega))) rfl ?_
    refine WL.val (Val.assignI rfl) rfl ?_
    refine WL.nil ?_
    refine WX.thenC ?_
    refine WC.seq ?_
    refine WC.region ?_
    refine WL.val (Val.moveI rfl) rfl ?_
    refine WL.val (Val.geq rfl rfl rfl) rfl ?_
    refine WL.nil ?_
    refine WX.thenC ?_
    refine WC.boxFrz 6 rfl fun I1 hI1 hA1 => ?_
    have hkv1 := hkv.mono hI1
    refine WC.cutP (fun ρ' I' L' => ∃ (B : Ar) (i : Nat), I' = I1 ∧ Spot A B i ∧ ρ' 0 = ptr B.b ∧ ρ' 2 = vi p ∧ ρ' 4 = ptr g4 ∧ ρ' 7 = vi i ∧ L' = F :: B.hp) ?_ ?_
    · refine WC.cond rfl (fun ht => ?_) (fun hf => ?_)
      · have hne : 0 < A.free.length := by have := of_decide_eq_true ht; omega
        obtain ⟨f, x, hfx⟩ : ∃ f x, A.free = f ++ [x] := ⟨A.free.dropLast, A.free.getLast (by intro e; rw [e] at hne; simp at hne), (List.dropLast_concat_getLast _).symm⟩
        obtain ⟨i, rfl, hi⟩ := hA.frb x (by rw [hfx]; simp)
        have hfl : A.free.length = f.length + 1 := by rw [hfx]; simp
        have e : ((A.free.length : Nat) : Int) - 1 = (f.length : Nat) := by omega
        have hv : (A.free.map vi)[0 + ((f.length : Nat) : Int).toNat * 1]? = some (vi i) := by
          rw [Nat.zero_add, Int.toNat_natCast, Nat.mul_one, hfx]; simp
        rw [e]
        refine WC.slSome 3 rfl hne fun gf hgf => ?_
        subst hgf
        refine WC.slCap 3 rfl fun hcap => ?_
        have hshr : (A.free.map vi).take (f.length * 1) = f.map vi := by rw [hfx]; simp
        refine WC.seq ?_
        refine WC.region ?_
        refine WL.val (Val.moveP rfl) rfl ?_
        refine WL.val (Val.nilCheckP rfl) rfl ?_
        refine WL.val (Val.fldAddr rfl) rfl ?_
        refine WL.val (Val.loadS rfl (Rd.own1 1 rfl rfl)) rfl ?_
        refine WL.val (Val.moveI rfl) rfl ?_
        refine WL.val (Val.indexAddr rfl rfl (by omega) (by omega)) rfl ?_
        refine WL.val (Val.loadS rfl (Rd.sl1 3 rfl (by assumption))) rfl ?_
        refine WL.val (Val.assignI rfl) rfl ?_
        refine WL.nil ?_
        refine WX.thenC ?_
        refine WC.region ?_
        refine WL.val (Val.moveP rfl) rfl ?_
        refine WL.val (Val.moveP rfl) rfl ?_
        refine WL.val (Val.nilCheckP rfl) rfl ?_
        refine WL.val (Val.fldAddr rfl) rfl ?_
        refine WL.val (Val.loadS rfl (Rd.own1 1 rfl rfl)) rfl ?_
        refine WL.val (Val.moveI rfl) rfl ?_
        refine WL.val (Val.sliceTo rfl rfl (by omega)) rfl ?_
        refine WL.val (Val.nilCheckP rfl) rfl ?_
        refine WL.val (Val.fldAddr rfl) rfl ?_
        refine WL.stS 1 rfl rfl rfl rfl ?_
        refine WL.nil ?_
        refine WX.conv (fun w h => h.slShrink (m := f.length) 3 rfl (by omega)) ?_
        refine WX.nSet ?_
        rw [hshr]
        exact WX.thenK (WK.meet ⟨{ A with free := f, fv := .slice (some ⟨gf, 0, none⟩) f.length fc }, i, rfl, Spot.pop _ hfx hA.frb, rfl, rfl, rfl, rfl, rfl⟩)
      · have hfe : A.free = [] := by
          have := of_decide_eq_false hf
          exact List.eq_nil_of_length_eq_zero (by omega)
        refine WC.region ?_
        refine WL.val (Val.moveP rfl) rfl ?_
        refine WL.val (Val.moveP rfl) rfl ?_
        refine WL.val (Val.nilCheckP rfl) rfl ?_
        refine WL.val (Val.fldAddr rfl) rfl ?_
        refine WL.val (Val.loadS rfl (Rd.own1 1 rfl rfl)) rfl ?_
        refine WL.val (Val.build0) rfl ?_
        (refine WL.buildSlice (by with_unfolding_all exact rfl) rfl (by with_unfolding_all exact rfl) rfl ?_; intro _)
        refine WL.nApp ?_
        refine WL.append (ys := [vi 0, .bool false, vi 0, .slice none 0 0]) 2 rfl rfl rfl (Rd.ownN 4 6 rfl rfl) rfl rfl rfl (by decide) (by decide) (by omega) (by unfold maxLen; omega) rfl fun gg cap => ?_
        refine WL.nSet ?_
        refine WL.val (Val.nilCheckP rfl) rfl ?_
        refine WL.val (Val.fldAddr rfl) rfl ?_
        refine WL.stS 1 rfl rfl rfl rfl ?_
        refine WL.nil ?_
        refine WX.conv (L' := F :: ({ A with cells := A.cells ++ [zeroCel], cg := gg, cc := cap } : Ar).hp) (fun w h => ?_) ?_
        · rw [Ar.push_hp, hfv]
          have h1 := h.sub [0, 0, 0, 0, 0, 0] rfl
          exact ((h1.sl_nil (e := 3) (sz := 1)).rowNew 5 rfl)
        exact WX.thenK (WK.meet ⟨{ A with cells := A.cells ++ [zeroCel], cg := gg, cc := cap }, A.cells.length, rfl, Spot.push gg cap hfe, rfl, rfl, rfl, rfl, rfl⟩)
    · rintro ρ' I' L' ⟨B, i, rfl, hP, h0, h2, h4, h7, rfl⟩
      rw [← upd_self h7, ← upd_self h4, ← upd_self h2, ← upd_self h0]
      clear h7 h4 h2 h0
      have hiB := hP.lt
      have hrowB := Ar.row hiB
      have hlB : B.cells.length ≤ A.cells.length + 1 := by
        have h1 := hP.perm.length_eq
        rw [List.length_cons, List.length_append, List.length_map, List.length_map, List.length_range'] at h1
        have h2 := hP.frl
        have h3 := hP.le
        omega
      refine WC.seq ?_
      refine WC.drawK 999 I' [1] rfl (by kernel_rfl) rfl rfl ?_
      refine WA.take 0 rfl (by kernel_rfl) rfl (fun w h => (h.sub [1] rfl)) (Val.moveP rfl) rfl ?_
      refine WA.take 1 rfl (by kernel_rfl) rfl (fun w h => (h.sub [1] rfl)) (Val.nilCheckP rfl) rfl ?_
      refine WA.take 2 rfl (by kernel_rfl) rfl (fun w h => (h.sub [1] rfl)) (Val.fldAddr rfl) rfl ?_
      refine WA.take 3 rfl (by kernel_rfl) rfl (fun w h => (h.sub [1] rfl)) (Val.loadS rfl (Rd.own1 0 rfl rfl)) rfl ?_
      refine WA.take 4 rfl (by kernel_rfl) rfl (fun w h => (h.sub [1] rfl)) (Val.moveI rfl) rfl ?_
      refine WA.take 5 rfl (by kernel_rfl) rfl (fun w h => (h.sub [1] rfl)) (Val.fldAddr rfl) rfl ?_
      refine WA.take 6 rfl (by kernel_rfl) rfl (fun w h => (h.sub [1] rfl)) (Val.loadS rfl (Rd.imm (At.zero (by assumption) rfl))) rfl ?_
      refine WA.take 7 rfl (by kernel_rfl) rfl (fun w h => (h.sub [1] rfl)) (Val.fldAddr rfl) rfl ?_
      first | refine WA.take 8 rfl (by kernel_rfl) rfl (fun w h => (h.sub [1] rfl)) (Val.loadSS rfl hA1 rfl) rfl ?_ | refine WA.takeGT 8 rfl (by kernel_rfl) rfl (fun w h => (h.sub [1] rfl)) rfl rfl (Val.loadSS rfl hA1 rfl) rfl ?_
      refine WA.take 9 rfl (by kernel_rfl) rfl (fun w h => (h.sub [1] rfl)) (Val.moveI rfl) rfl ?_
      first | refine WA.take 10 rfl (by kernel_rfl) rfl (fun w h => (h.sub [1] rfl)) (Val.build (cs := [vi nd.id, .bool nd.grp, vi p, .slice none 0 0]) rfl) rfl ?_ | refine WA.takeGT 10 rfl (by kernel_rfl) rfl (fun w h => (h.sub [1] rfl)) rfl rfl (Val.build (cs := [vi nd.id, .bool nd.grp, vi p, .slice none 0 0]) rfl) rfl ?_
      refine WA.take 11 rfl (by kernel_rfl) rfl (fun w h => (h.sub [1] rfl)) (Val.indexAddr rfl rfl (by omega) (by omega)) rfl ?_
      refine WA.eff1 (i := 12) (by kernel_rfl) rfl rfl ?_
      refine WL.storeSl 2 rfl rfl rfl rfl (by show 0 + (i : Int).toNat * 4 + 4 ≤ B.cells.length * 4; rw [Int.toNat_natCast]; omega) ?_
      refine WL.nSet ?_
      refine WL.rowNil 3 1 5 i rfl hrowB ?_
      refine WL.nSet ?_
      refine WL.nil ?_
      refine WK.anyStep (fun w h => (h.sub [1] rfl)) ?_
      refine WA.done (by kernel_rfl) ?_
      refine WX.thenC ?_
      refine WC.seq ?_
      refine WC.drawK 999 I' [1] rfl (by kernel_rfl) rfl rfl ?_
      refine WA.take 0 rfl (by kernel_rfl) rfl (fun w h => (h.sub [1] rfl)) (Val.moveP rfl) rfl ?_
      refine WA.take 1 rfl (by kernel_rfl) rfl (fun w h => (h.sub [1] rfl)) (Val.nilCheckP rfl) rfl ?_
      refine WA.take 2 rfl (by kernel_rfl) rfl (fun w h => (h.sub [1] rfl)) (Val.fldAddr rfl) rfl ?_
      refine WA.take 3 rfl (by kernel_rfl) rfl (fun w h => (h.sub [1] rfl)) (Val.loadS rfl (Rd.own1 0 rfl rfl)) rfl ?_
      refine WA.take 4 rfl (by kernel_rfl) rfl (fun w h => (h.sub [1] rfl)) (Val.fldAddr rfl) rfl ?_
      refine WA.take 5 rfl (by kernel_rfl) rfl (fun w h => (h.sub [1] rfl)) (Val.loadS rfl (Rd.imm (At.zero (by assumption) rfl))) rfl ?_
      refine WA.take 6 rfl (by kernel_rfl) rfl (fun w h => (h.sub [1] rfl)) (Val.moveI rfl) rfl ?_
      refine WA.eff1 (i := 7) (by kernel_rfl) rfl rfl ?_
      refine WL.mapUpdate 4 rfl rfl rfl ?_
      refine WL.nSet ?_
      refine WL.nil ?_
      refine WK.anyStep (fun w h => (h.sub [1] rfl)) ?_
      refine WA.done (by kernel_rfl) ?_
      refine WX.thenC ?_
      refine WC.seq ?_
      refine WC.seq ?_
      refine WC.region ?_
      refine WL.val (Val.fldAddr rfl) rfl ?_
      refine WL.val (Val.loadSS rfl (by assumption) rfl) rfl ?_
      refine WL.val (Val.len rfl) rfl ?_
      refine WL.val (Val.moveI rfl) rfl ?_
      refine WL.nil ?_
      refine WX.thenC ?_
      refine WC.block ?_
      try refine WL.val (Val.loadSS rfl hA1 rfl) rfl ?_
      skip
      refine WC.loop (fun m ρ' I2 L' => ∃ (k : Nat) (C : Ar), m = nd.kids.length - k ∧ k ≤ nd.kids.length ∧ I'.le I2 ∧ ρ' 0 = ptr C.b ∧ ρ' 7 = vi i ∧ ρ' 71 = .slice ka nd.kids.length kc ∧ ρ' 72 = vi nd.kids.length ∧ ρ' 73 = vi k ∧ L' = F :: C.hp ∧ Laid A C p i (.mk nd.id nd.grp (nd.kids.take k)))
        nd.kids.length ⟨0, B.own i nd.id nd.grp p, rfl, by omega, Mem.le.refl _, rfl, rfl, rfl, rfl, rfl, by rw [Ar.own_hp B i _ _ _ hiB]; rfl, hP.own _ _ _ hnid⟩ ?_
      rintro m ρ' I2 L' ⟨k, C, rfl, hk, hI2, h0, h7, h71, h72, h73, rfl, hC⟩
      rw [← upd_self h73, ← upd_self h72, ← upd_self h71, ← upd_self h7, ← upd_self h0]
      clear h73 h72 h71 h7 h0
      by_cases hkn : k < nd.kids.length
      · have hA' := hA.take (k + 1)
        have htk : nd.kids.take (k + 1) = nd.kids.take k ++ [nd.kids[k]] := take1 _ _ hkn
        rw [htk] at hA'
        have hnx := hC.next hA'
        obtain ⟨kb, ko, kcap, hke, kw, hAk, hkw, h64⟩ := NdAtB.kid (hkv1.mono hI2) k hkn
        injection hke with hke
        subst hke
        obtain ⟨wa, wc, rfl⟩ := hkw.sl
        have hbk := kid_sz hkn
        refine WC.seq ?_
        refine WC.region ?_
        refine WL.val (Val.lss rfl rfl (decide_eq_true (by omega))) rfl ?_
        refine WL.nil ?_
        refine WX.thenC ?_
        refine WC.seq ?_
        refine WC.condT rfl ?_
        refine WC.skip ?_
        refine WX.thenC ?_
        refine WC.seq ?_
        refine WC.block ?_
        refine WC.seq ?_
        refine WC.region ?_
        refine WL.val (Val.indexAddr rfl rfl (by omega) (by omega)) rfl ?_
        refine WL.val (Val.loadI rfl (by assumption) rfl) rfl ?_
        (refine WL.alloc rfl ?_; intro _)
        refine WL.nApp ?_
        refine WL.stA 6 rfl rfl rfl rfl ?_
        refine WL.nil ?_
        refine WX.thenC ?_
        refine WC.seq ?_
        refine WC.region ?_
        refine WL.val (Val.moveP rfl) rfl ?_
        refine WL.val (Val.ldO 6 rfl rfl rfl) rfl ?_
        refine WL.val (Val.moveI rfl) rfl ?_
        refine WL.conv (fun w h => h.sub [0, 0, 0, 0, 0, 0] rfl) ?_
        refine WL.callAll rfl rfl (ih _ (kid_lt hs hkn) C i _ I2 (by omega) hnx hkw) rfl ?_
        rintro v I3 L3 hI3 ⟨D, q, rfl, rfl, hD⟩
        obtain ⟨hiD, hL0⟩ := hC.kid (.slice none 0 0) hA' hD
        have hkl : (D.cells[i]).kids.length = k := by
          obtain ⟨h1, e⟩ := setKids_at D i ((D.cells[i]).kids ++ [(q : Int)]) (.slice none 0 0) hiD
          obtain ⟨_, _, _, _, h5⟩ := hL0.tr.ex
          have h6 : ((D.cells[i]).kids ++ [(q : Int)]).length = (nd.kids.take k ++ [nd.kids[k]]).length := by
            have := h5.len
            rw [e] at this
            exact this
          rw [List.length_append, List.length_append, List.length_take, List.length_singleton, List.length_singleton] at h6
          omega
        have hbD := hD.b
        have hc3 := Ar.c3 hiD
        have hrowD := Ar.row hiD
        rw [← hbD]
        refine WL.val (Val.assignI rfl) rfl ?_
        refine WL.nil ?_
        refine WX.thenC ?_
        refine WC.rowOpen 5 i rfl hrowD fun ra rc hkvD _ => ?_
        rw [hkvD] at hc3
        refine WC.drawK 18 I3 [1, 1] rfl (by kernel_rfl) rfl rfl ?_
        refine WA.take 0 rfl (by kernel_rfl) rfl (fun w h => (h.sub [1, 1] rfl)) (Val.moveP rfl) rfl ?_
        refine WA.take 1 rfl (by kernel_rfl) rfl (fun w h => (h.sub [1, 1] rfl)) (Val.nilCheckP rfl) rfl ?_
        refine WA.take 2 rfl (by kernel_rfl) rfl (fun w h => (h.sub [1, 1] rfl)) (Val.fldAddr rfl) rfl ?_
        refine WA.take 3 rfl (by kernel_rfl) rfl (fun w h => (h.sub [1, 1] rfl)) (Val.loadS rfl (Rd.own1 0 rfl rfl)) rfl ?_
        refine WA.take 4 rfl (by kernel_rfl) rfl (fun w h => (h.sub [1, 1] rfl)) (Val.moveI rfl) rfl ?_
        refine WA.take 5 rfl (by kernel_rfl) rfl (fun w h => (h.sub [1, 1] rfl)) (Val.moveP rfl) rfl ?_
        refine WA.take 6 rfl (by kernel_rfl) rfl (fun w h => (h.sub [1, 1] rfl)) (Val.nilCheckP rfl) rfl ?_
        refine WA.take 7 rfl (by kernel_rfl) rfl (fun w h => (h.sub [1, 1] rfl)) (Val.fldAddr rfl) rfl ?_
        refine WA.take 8 rfl (by kernel_rfl) rfl (fun w h => (h.sub [1, 1] rfl)) (Val.loadS rfl (Rd.own1 0 rfl rfl)) rfl ?_
        refine WA.take 9 rfl (by kernel_rfl) rfl (fun w h => (h.sub [1, 1] rfl)) (Val.moveI rfl) rfl ?_
        refine WA.take 10 rfl (by kernel_rfl) rfl (fun w h => (h.sub [1, 1] rfl)) (Val.indexAddr rfl rfl (by omega) (by omega)) rfl ?_
        refine WA.take 11 rfl (by kernel_rfl) rfl (fun w h => (h.sub [1, 1] rfl)) (Val.fldAddr rfl) rfl ?_
        first | refine WA.take 12 rfl (by kernel_rfl) rfl (fun w h => (h.sub [1, 1] rfl)) (Val.loadS rfl (Rd.sl1 1 rfl hc3)) rfl ?_ | refine WA.takeGT 12 rfl (by kernel_rfl) rfl (fun w h => (h.sub [1, 1] rfl)) rfl rfl (Val.loadS rfl (Rd.sl1 1 rfl hc3)) rfl ?_
        refine WA.take 13 rfl (by kernel_rfl) rfl (fun w h => (h.sub [1, 1] rfl)) (Val.moveI rfl) rfl ?_
        refine WA.eff1 (i := 14) (by kernel_rfl) rfl rfl ?_
        (refine WL.buildSlice (by with_unfolding_all exact rfl) rfl (by with_unfolding_all exact rfl) rfl ?_; intro _)
        refine WL.nApp ?_
        refine WL.nil ?_
        refine WK.anyStep (fun w h => (h.sub [1, 1] rfl)) ?_
        refine WA.eff1 (i := 15) (by kernel_rfl) rfl rfl ?_
        refine WL.rowTake 5 i rfl hrowD ?_
        refine WL.appI (l := (D.cells[i]).kids) (i := (q : Int)) 0 7 hkvD.symm rfl rfl rfl rfl (by omega) rfl fun ra2 rc2 => ?_
        refine WL.nSet ?_
        refine WL.rowPut 5 i rfl (by simpa using hiD) ?_
        refine WL.nSet ?_
        refine WL.nil ?_
        refine WK.anyStep (fun w h => (h.sub [1, 1] rfl)) ?_
        refine WA.eff1 (i := 16) (by kernel_rfl) rfl rfl ?_
        refine WL.val (Val.indexAddr rfl rfl (by omega) (by omega)) rfl ?_
        refine WL.nil ?_
        refine WK.anyStep (fun w h => (h.sub [1, 1] rfl)) ?_
        refine WA.eff1 (i := 17) (by kernel_rfl) rfl rfl ?_
        refine WL.val (Val.fldAddr rfl) rfl ?_
        refine WL.nil ?_
        refine WK.anyStep (fun w h => (h.sub [1, 1] rfl)) ?_
        refine WA.eff1 (i := 18) (by kernel_rfl) rfl rfl ?_
        refine WL.storeSl 2 rfl rfl rfl rfl (by show 0 + (i : Int).toNat * 4 + 3 + 1 ≤ D.cells.length * 4; rw [Int.toNat_natCast]; omega) ?_
        refine WL.nSet ?_
        refine WL.nil ?_
        refine WK.anyLast ?_
        refine WA.done (by kernel_rfl) ?_
        refine WX.inNormal ?_
        refine WX.thenC ?_
        refine WC.region ?_
        refine WL.val (Val.add rfl rfl (wrap_i64 (by omega) (by omega))) rfl ?_
        refine WL.val (Val.moveI rfl) rfl ?_
        refine WL.nil ?_
        refine WX.conv (fun w h => h.sub [0, 0, 0, 0, 0, 0] rfl) ?_
        refine WX.thenK (WK.round (nd.kids.length - (k + 1)) (by omega) ⟨k + 1, D.setKids i ((D.cells[i]).kids ++ [(q : Int)]) (.slice ra2 ((D.cells[i]).kids ++ [(q : Int)]).length rc2), rfl, by omega, hI2.trans hI3, rfl, rfl, rfl, rfl, rfl, by rw [Ar.setKids_hp D i _ _ hiD]; rfl, ?_⟩)
        rw [htk]
        exact (hC.kid _ hA' hD).2
      · have hJ := hI1.trans hI2
        refine WC.seq ?_
        refine WC.region ?_
        refine WL.val (Val.lss rfl rfl (decide_eq_false (by omega))) rfl ?_
        refine WL.nil ?_
        refine WX.thenC ?_
        refine WC.seq ?_
        refine WC.condF rfl ?_
        refine WC.exit ?_
        refine WX.thenExit ?_
        refine WX.thenExit ?_
        refine WX.inHit ?_
        refine WX.thenC ?_
        refine WC.seq ?_
        refine WC.region ?_
        refine WL.val (Val.moveI rfl) rfl ?_
        refine WL.val (Val.assignI rfl) rfl ?_
        refine WL.nil ?_
        refine WX.thenC ?_
        refine WC.ret ?_
        apply WX.doneP (ks := [0, 0, 0, 0, 0])
        case hres => exact RunRes.r1 rfl (ResIs.tmpI rfl)
        case hI => first | exact Mem.le.refl _ | assumption
        refine ⟨C, i, rfl, rfl, ?_⟩
        have : k = nd.kids.length := by omega
        subst this
        rw [List.take_length, Nd.eta] at hC
        exact hC
end Go.Proofs.YtggcpoleklcmkaaGreatDoor

/-
  Tree, the plain law (4): what is kept by adding and removing.
-/

namespace Go.Tr
open Go.Sl Go.Ls
set_option linter.unusedVariables false
set_option linter.unusedSimpArgs false
/-- A cell's numbers are in range. -/
structure CelOk (c : Cel) : Prop where
  par : I64 c.par
  id : I64 c.id
  kids : c.kids.length ≤ 1000000000
theorem CelOk.zero : CelOk zeroCel := ⟨⟨by decide, by decide⟩, ⟨by decide, by decide⟩, by decide⟩
theorem Ar.Ok.cel {A : Ar} (h : A.Ok) {c : Cel} (hc : c ∈ A.cells) : CelOk c := ⟨h.par c hc, h.id c hc, h.kidl c hc⟩
theorem Tr.cels (A : Ar) (hl : A.cells.length ≤ 1000000000) : (∀ (nd : Nd) (p : Int) (i : Nat), Tr A p i nd → I64 p → (∀ x ∈ nd.order, I64 x) → nd.size ≤ 1000000000 → ∀ j ∈ post A i nd, ∀ c, A.cells[j]? = some c → CelOk c) ∧
    (∀ (ns : List Nd) (p : Int) (l : List Int), Trs A p l ns → I64 p → (∀ x ∈ Nd.orders ns, I64 x) → Nd.sizes ns ≤ 1000000000 → ∀ j ∈ posts A l ns, ∀ c, A.cells[j]? = some c → CelOk c) := by
  refine Tr.ind (P := fun p i nd => I64 p → (∀ x ∈ nd.order, I64 x) → nd.size ≤ 1000000000 → ∀ j ∈ post A i nd, ∀ c, A.cells[j]? = some c → CelOk c)
    (Ps := fun p l ns => I64 p → (∀ x ∈ Nd.orders ns, I64 x) → Nd.sizes ns ≤ 1000000000 → ∀ j ∈ posts A l ns, ∀ c, A.cells[j]? = some c → CelOk c) ?_ ?_ ?_
  · intro p i nd hi h1 h2 h3 h4 ih hp hx hs j hj c hc
    have hsz : nd.size = 1 + Nd.sizes nd.kids := by cases nd; rfl
    rw [(post_eq (Tr.mk hi h1 h2 h3 h4)).2] at hj
    rcases List.mem_append.1 hj with hj | hj
    · exact ih ⟨by omega, by omega⟩ (fun x hm => hx x (by rw [Nd.order_eq]; exact List.mem_cons_of_mem _ hm)) (by omega) j hj c hc
    · rw [List.mem_singleton] at hj
      subst hj
      rw [List.getElem?_eq_getElem hi] at hc
      injection hc with hc
      subst hc
      refine ⟨by rw [h3]; exact hp, by rw [h1]; exact hx _ (Nd.id_mem nd), ?_⟩
      rw [h4.len]
      have := Nd.len_le_sizes nd.kids
      omega
  · intro p _ _ _ j hj
    simp [posts] at hj
  · intro p q l n ns t1 t2 a b hp hx hs j hj c hc
    rw [Nd.sizes] at hs
    rw [posts_cons] at hj
    rcases List.mem_append.1 hj with hj | hj
    · exact a hp (fun x hm => hx x (List.mem_append.2 (.inl hm))) (by omega) j hj c hc
    · exact b hp (fun x hm => hx x (List.mem_append.2 (.inr hm))) (by omega) j hj c hc
/-- What is to be shown of an arena, that it is a tree. -/
theorem Abs.of {A : Ar} {top : Nd} (tr : Tr A (-1) 0 top) (od : top.order.Nodup) (nd : (post A 0 top ++ A.free.map Int.toNat).Nodup) (frb : ∀ x ∈ A.free, ∃ n : Nat, x = (n : Int) ∧ n < A.cells.length) (len : A.cells.length = top.size + A.free.length)
    (cap : A.cells.length ≤ 100000) (at_ : ∀ j ∈ post A 0 top, A.at_ (A.idAt j) = some (j : Int)) (atn : ∀ i, i ∉ top.order → A.at_ i = none) (cnt : A.cnt = top.size) (id0 : top.id = 0) (g0 : top.grp = true)
    (i64 : ∀ x ∈ top.order, I64 x) (rest : ∀ j c, A.cells[j]? = some c → j ∉ post A 0 top → CelOk c) : Abs A top := by
  have hc : ∀ c ∈ A.cells, CelOk c := fun c hc => by
    obtain ⟨j, hj⟩ := List.getElem?_of_mem hc
    by_cases hp : j ∈ post A 0 top
    · exact (Tr.cels A (by omega)).1 top (-1) 0 tr ⟨by decide, by decide⟩ i64 (by omega) j hp c hj
    · exact rest j c hj hp
  refine ⟨⟨by omega, fun i p h => ?_, fun c h => (hc c h).par, fun c h => (hc c h).id, fun c h => (hc c h).kids⟩, tr, od, nd, frb, len, cap, at_, atn, cnt, id0, g0⟩
  by_cases hi : i ∈ top.order
  · obtain ⟨j, hj, e⟩ := tr.of_mem hi
    have := at_ j hj
    rw [e, h] at this
    injection this with this
    exact ⟨j, this, tr.lt j hj⟩
  · rw [atn i hi] at h; cases h
theorem Abs.i64 {A : Ar} {top : Nd} (h : Abs A top) : ∀ x ∈ top.order, I64 x := fun x hx => by
  obtain ⟨j, hj, e⟩ := h.tr.of_mem hx
  have hlt := h.tr.lt j hj
  rw [← e, Ar.idAt_eq hlt]
  exact h.ok.id _ (List.getElem_mem hlt)
theorem Abs.cel {A : Ar} {top : Nd} (h : Abs A top) {j : Nat} {c : Cel} (hj : A.cells[j]? = some c) : CelOk c := h.ok.cel (List.mem_of_getElem? hj)
namespace Nd
/-- What is not wrong. -/
theorem wrong_ok (top : Nd) (n : Nd) : ∀ (seen : List Int) (d : Int), (wrong top n seen d).1 = 0 → (wrong top n seen d).2 = seen ++ n.order ∧ (seen.Nodup → (seen ++ n.order).Nodup) ∧ ∀ x ∈ n.order, x ∉ top.order ∧ 1 ≤ x ∧ x ≤ 2147483648 := by
  refine Nd.rec (motive_1 := fun n => ∀ (seen : List Int) (d : Int), (wrong top n seen d).1 = 0 → (wrong top n seen d).2 = seen ++ n.order ∧ (seen.Nodup → (seen ++ n.order).Nodup) ∧ ∀ x ∈ n.order, x ∉ top.order ∧ 1 ≤ x ∧ x ≤ 2147483648)
    (motive_2 := fun l => ∀ (seen : List Int) (d : Int), (wrongs top l seen d).1 = 0 → (wrongs top l seen d).2 = seen ++ orders l ∧ (seen.Nodup → (seen ++ orders l).Nodup) ∧ ∀ x ∈ orders l, x ∉ top.order ∧ 1 ≤ x ∧ x ≤ 2147483648) ?_ ?_ ?_ n
  · intro i g ks ih seen d h
    simp only [wrong] at h ⊢
    by_cases h1 : i < 1 ∨ 2147483648 < i
    · rw [if_pos h1] at h; exact absurd h (by show ¬ (30 : Int) = 0; decide)
    rw [if_neg h1] at h ⊢
    by_cases h2 : (find i top).isSome = true
    · rw [if_pos h2] at h; exact absurd h (by show ¬ (32 : Int) = 0; decide)
    rw [if_neg h2] at h ⊢
    by_cases h3 : i ∈ seen
    · rw [if_pos h3] at h; exact absurd h (by show ¬ (32 : Int) = 0; decide)
    rw [if_neg h3] at h ⊢
    by_cases h4 : g = false ∧ 0 < ks.length
    · rw [if_pos h4] at h; exact absurd h (by show ¬ (33 : Int) = 0; decide)
    rw [if_neg h4] at h ⊢
    by_cases h5 : 64 < d
    · rw [if_pos h5] at h; exact absurd h (by show ¬ (35 : Int) = 0; decide)
    rw [if_neg h5] at h ⊢
    obtain ⟨a, b, c⟩ := ih _ _ h
    rw [List.append_assoc] at a b
    refine ⟨a, fun hs => b ?_, fun x hx => ?_⟩
    · rw [List.nodup_append]
      exact ⟨hs, by simp, fun x hx y hy e => h3 (by rw [List.mem_singleton] at hy; rw [← hy, ← e]; exact hx)⟩
    · rw [order, List.mem_cons] at hx
      rcases hx with rfl | hx
      · exact ⟨fun hm => h2 ((find_some _ _).2 hm), by omega, by omega⟩
      · exact c x hx
  · intro seen d _
    simp [wrongs, orders]
  · intro k ks h1 h2 seen d h
    simp only [wrongs] at h ⊢
    by_cases hk : (wrong top k seen d).1 = 0
    · rw [if_pos hk] at h ⊢
      obtain ⟨a1, b1, c1⟩ := h1 _ _ hk
      obtain ⟨a2, b2, c2⟩ := h2 _ _ h
      rw [a1] at a2 b2
      rw [List.append_assoc] at a2 b2
      refine ⟨by rw [a1]; exact a2, fun hs => b2 (b1 hs), fun x hx => ?_⟩
      rw [orders, List.mem_append] at hx
      exact hx.elim (c1 x) (c2 x)
    · rw [if_neg hk] at h; exact absurd h hk
theorem fits_ok {top n : Nd} {d : Int} (h : fits top n d = 0) : n.order.Nodup ∧ (∀ x ∈ n.order, x ∉ top.order ∧ 1 ≤ x ∧ x ≤ 2147483648) ∧ top.size + n.size ≤ 65537 := by
  rw [fits] at h
  by_cases h1 : 65536 < (top.size : Int) - 1 + n.size
  · rw [if_pos h1] at h; cases h
  · rw [if_neg h1] at h
    obtain ⟨_, b, c⟩ := wrong_ok top n [] d h
    have := b List.nodup_nil
    rw [List.nil_append] at this
    exact ⟨this, c, by omega⟩
end Nd
section
variable {A : Ar} {top : Nd}
theorem Foc.size {p : Int} {i q : Nat} {nd np : Nd} {qp : Int} {R : List Nat} {RO : List Int} (f : Foc A p i nd q qp np R RO) : nd.size = np.size + RO.length := by
  have := f.order.length_eq
  rwa [List.length_append, Nd.order_len, Nd.order_len] at this
theorem Foc.notR {p : Int} {i q : Nat} {nd np : Nd} {qp : Int} {R : List Nat} {RO : List Int} (f : Foc A p i nd q qp np R RO) (hn : (post A i nd).Nodup) : q ∉ R := f.dis hn (self_post A q np)
/-- A place is no kid of one of its kids. -/
theorem Foc.posts_dis {p : Int} {i q : Nat} {nd np : Nd} {qp : Int} {R : List Nat} {RO : List Int} (f : Foc A p i nd q qp np R RO) (hn : (post A i nd).Nodup) : ∃ hq : q < A.cells.length, post A q np = posts A (A.cells[q]).kids np.kids ++ [q] ∧ (posts A (A.cells[q]).kids np.kids).Nodup ∧ q ∉ posts A (A.cells[q]).kids np.kids := by
  obtain ⟨hq, e⟩ := post_eq f.tr
  have h1 := (List.nodup_append.1 (f.perm.nodup_iff.1 hn)).1
  rw [e] at h1
  exact ⟨hq, e, (List.nodup_append.1 h1).1, fun hm => dis_of_nodup h1 hm (List.mem_singleton.2 rfl)⟩
theorem Abs.layOk (h : Abs A top) {n : Nd} (ho : n.order.Nodup) (hx : ∀ x ∈ n.order, x ∉ top.order) (hs : n.size ≤ 1000000) : LayOk A n := by
  have := h.cap
  have := h.len
  exact ⟨h.frb, (List.nodup_append.1 h.nd).2.1, ho, fun k hk => h.atn k (hx k hk), by omega, by omega⟩
theorem perm_mid {α : Type} (a b c : List α) : (a ++ b ++ c).Perm (a ++ c ++ b) := by
  rw [List.append_assoc, List.append_assoc]; exact List.perm_append_comm.append_left _
/-- A node is added. -/
theorem Abs.add (h : Abs A top) {q : Nat} {qp : Int} {np : Nd} {R : List Nat} {RO : List Int} (f : Foc A (-1) 0 top q qp np R RO) {n : Nd} (ho : n.order.Nodup) (hx : ∀ x ∈ n.order, x ∉ top.order ∧ I64 x) (hsz : top.size + n.size ≤ 65537)
    {B : Ar} {i k : Nat} (hk : k ≤ np.kids.length) (hL : Laid A B (q : Int) i n) (kv : Value) :
    ∃ hq : q < B.cells.length, ∃ hqA : q < A.cells.length, B.cells[q] = A.cells[q] ∧ Abs (B.setKids q ((B.cells[q]).kids.take k ++ [(i : Int)] ++ (B.cells[q]).kids.drop k) kv) (Nd.with_ np.id (np.kids.take k ++ (n :: np.kids.drop k)) top) := by
  have hpn := h.pnd
  obtain ⟨hqA, hpq, hps, hqp⟩ := f.posts_dis hpn
  have hlay := h.layOk ho (fun x hm => (hx x hm).1) (by omega)
  have hnB := hL.nodup hlay.frb hlay.fnd
  -- the old places are not the new ones
  have hold : ∀ j ∈ post A 0 top, j ∉ post B i n := fun j hj hm => by
    rcases mem_news.1 (hL.perm.mem_iff.1 (List.mem_append.2 (.inl hm))) with hf | hr
    · exact dis_of_nodup h.nd hj hf
    · have := h.tr.lt j hj; omega
  have hBA : ∀ j ∈ post A 0 top, B.cells[j]? = A.cells[j]? := fun j hj => hL.out j (h.tr.lt j hj) (hold j hj)
  have hqm : q ∈ post A 0 top := f.mem (self_post A q np)
  have hqB : q < B.cells.length := Nat.lt_of_lt_of_le hqA hL.le
  have heq : B.cells[q] = A.cells[q] := by
    have := hBA q hqm
    rw [List.getElem?_eq_getElem hqA, List.getElem?_eq_getElem hqB] at this; injection this
  refine ⟨hqB, hqA, heq, ?_⟩
  rw [heq]
  obtain ⟨hqD, eD⟩ := setKids_at B q ((A.cells[q]).kids.take k ++ [(i : Int)] ++ (A.cells[q]).kids.drop k) kv hqB
  generalize hDD : B.setKids q ((A.cells[q]).kids.take k ++ [(i : Int)] ++ (A.cells[q]).kids.drop k) kv = D at *
  have hDne : ∀ j, j ≠ q → D.cells[j]? = B.cells[j]? := fun j hj => by rw [← hDD]; exact setKids_ne _ _ _ _ hj
  have hDid : ∀ j, D.idAt j = B.idAt j := fun j => by rw [← hDD]; exact setKids_id _ _ _ _ _
  have hDlen : D.cells.length = B.cells.length := by rw [← hDD]; exact Ar.setKids_len _ _ _ _
  have hDfree : D.free = B.free := by rw [← hDD]; rfl
  have hDat : D.at_ = B.at_ := by rw [← hDD]; rfl
  have hDcnt : D.cnt = B.cnt := by rw [← hDD]; rfl
  have hDA : ∀ j ∈ post A 0 top, j ≠ q → D.cells[j]? = A.cells[j]? := fun j hj hne => (hDne j hne).trans (hBA j hj)
  obtain ⟨_, hid, hgr, hpar, hks⟩ := f.tr.ex
  obtain ⟨s1, s2, s3⟩ := Trs.split k hks
  have hin : ∀ j ∈ posts A (A.cells[q]).kids np.kids, j ∈ post A 0 top := fun j hj => f.mem (by rw [hpq]; exact List.mem_append.2 (.inl hj))
  have hne : ∀ j ∈ posts A (A.cells[q]).kids np.kids, j ≠ q := fun j hj e => hqp (e ▸ hj)
  obtain ⟨t1, u1⟩ := Trs.keep (A' := D) _ _ s1 (fun j hj => hDA j (hin j (by rw [s3]; exact List.mem_append.2 (.inl hj))) (hne j (by rw [s3]; exact List.mem_append.2 (.inl hj))))
  obtain ⟨t2, u2⟩ := Trs.keep (A' := D) _ _ s2 (fun j hj => hDA j (hin j (by rw [s3]; exact List.mem_append.2 (.inr hj))) (hne j (by rw [s3]; exact List.mem_append.2 (.inr hj))))
  obtain ⟨tn, un⟩ := Tr.keep (A' := D) n _ i hL.tr (fun j hj => hDne j (fun e => hold q hqm (e ▸ hj)))
  have htq : Tr D qp q (.mk np.id np.grp (np.kids.take k ++ (n :: np.kids.drop k))) := by
    refine Tr.mk hqD (by rw [eD]; show (B.cells[q]).id = np.id; rw [heq]; exact hid) (by rw [eD]; show (B.cells[q]).grp = np.grp; rw [heq]; exact hgr) (by rw [eD]; show (B.cells[q]).par = qp; rw [heq]; exact hpar) ?_
    rw [eD]
    show Trs D (q : Int) ((A.cells[q]).kids.take k ++ [(i : Int)] ++ (A.cells[q]).kids.drop k) (np.kids.take k ++ (n :: np.kids.drop k))
    rw [List.append_assoc]
    exact t1.app (Trs.cons tn t2)
  have hpq' : post D q (.mk np.id np.grp (np.kids.take k ++ (n :: np.kids.drop k))) = posts A ((A.cells[q]).kids.take k) (np.kids.take k) ++ (post B i n ++ posts A ((A.cells[q]).kids.drop k) (np.kids.drop k)) ++ [q] := by
    rw [(post_eq htq).2, eD]
    show posts D ((A.cells[q]).kids.take k ++ [(i : Int)] ++ (A.cells[q]).kids.drop k) (np.kids.take k ++ (n :: np.kids.drop k)) ++ [q] = _
    rw [List.append_assoc, posts_app D _ _ s1.len, u1]
    show _ ++ posts D ((i : Int) :: (A.cells[q]).kids.drop k) (n :: np.kids.drop k) ++ [q] = _
    rw [posts_cons, un, u2]
  obtain ⟨htr0, hperm0⟩ := f.with_ D (.mk np.id np.grp (np.kids.take k ++ (n :: np.kids.drop k))) rfl rfl htq (fun j hj => hDA j (f.memR hj) (fun e => f.notR hpn (e ▸ hj)))
  have htr : Tr D (-1) 0 (Nd.with_ np.id (np.kids.take k ++ (n :: np.kids.drop k)) top) := htr0
  have hperm : (post D 0 (Nd.with_ np.id (np.kids.take k ++ (n :: np.kids.drop k)) top)).Perm (post D q (.mk np.id np.grp (np.kids.take k ++ (n :: np.kids.drop k))) ++ R) := hperm0
  have hord : (Nd.with_ np.id (np.kids.take k ++ (n :: np.kids.drop k)) top).order.Perm ((Nd.mk np.id np.grp (np.kids.take k ++ (n :: np.kids.drop k))).order ++ RO) := f.order' (.mk np.id np.grp (np.kids.take k ++ (n :: np.kids.drop k))) rfl rfl
  have hwid := with_id np.id (np.kids.take k ++ (n :: np.kids.drop k)) top
  -- places
  have hP : (post D 0 (Nd.with_ np.id (np.kids.take k ++ (n :: np.kids.drop k)) top)).Perm (post A 0 top ++ post B i n) := by
    refine hperm.trans ?_
    rw [hpq']
    have e1 : (posts A ((A.cells[q]).kids.take k) (np.kids.take k) ++ (post B i n ++ posts A ((A.cells[q]).kids.drop k) (np.kids.drop k)) ++ [q]).Perm (post A q np ++ post B i n) := by
      rw [hpq, s3]
      simp only [List.append_assoc]
      refine List.Perm.append_left _ ?_
      refine (List.perm_append_comm (l₁ := post B i n) (l₂ := posts A ((A.cells[q]).kids.drop k) (np.kids.drop k) ++ [q])).trans ?_
      rw [List.append_assoc]
    refine (e1.append_right _).trans ((perm_mid _ _ _).trans ?_)
    exact f.perm.symm.append_right _
  have hO : (Nd.with_ np.id (np.kids.take k ++ (n :: np.kids.drop k)) top).order.Perm (top.order ++ n.order) := by
    refine hord.trans ?_
    have e1 : (Nd.mk np.id np.grp (np.kids.take k ++ (n :: np.kids.drop k))).order.Perm (np.order ++ n.order) := by
      rw [Nd.order, Nd.orders_app, Nd.orders, Nd.order_eq np]
      have : Nd.orders np.kids = Nd.orders (np.kids.take k) ++ Nd.orders (np.kids.drop k) := by rw [← Nd.orders_app, List.take_append_drop]
      rw [this, List.cons_append]
      refine List.Perm.cons _ ?_
      rw [List.append_assoc]
      exact List.Perm.append_left _ List.perm_append_comm
    refine (e1.append_right _).trans ((perm_mid _ _ _).trans ?_)
    exact f.order.symm.append_right _
  have hS : (Nd.with_ np.id (np.kids.take k ++ (n :: np.kids.drop k)) top).size = top.size + n.size := by
    have := hO.length_eq
    rwa [List.length_append, Nd.order_len, Nd.order_len, Nd.order_len] at this
  have hsl := hL.size_le
  refine Abs.of htr ?_ ?_ ?_ ?_ ?_ ?_ ?_ ?_ (hwid.1.trans h.id0) (hwid.2.trans h.g0) ?_ ?_
  · rw [hO.nodup_iff, List.nodup_append]
    exact ⟨h.od, ho, fun a ha b hb e => (hx b hb).1 (e ▸ ha)⟩
  · rw [hDfree]
    have e2 : (post D 0 (Nd.with_ np.id (np.kids.take k ++ (n :: np.kids.drop k)) top) ++ B.free.map Int.toNat).Perm (post A 0 top ++ news A B) := by
      refine (hP.append_right _).trans ?_
      rw [List.append_assoc]
      exact hL.perm.append_left _
    rw [e2.nodup_iff, List.nodup_append]
    refine ⟨hpn, news_nodup hlay.frb hlay.fnd, fun a ha b hb e => ?_⟩
    subst e
    rcases mem_news.1 hb with hf | hr
    · exact dis_of_nodup h.nd ha hf
    · have := h.tr.lt a ha; omega
  · rw [hDfree, hDlen]
    intro x hm
    obtain ⟨m, e, hm⟩ := h.frb x (hL.frs x hm)
    exact ⟨m, e, Nat.lt_of_lt_of_le hm hL.le⟩
  · rw [hDlen, hDfree, hS]
    have := h.len
    omega
  · rw [hDlen]
    -- no more places than nodes, or as many as there were
    have h1 := hL.perm.length_eq
    rw [List.length_append, List.length_append, List.length_map, List.length_map, List.length_range', hL.tr.len] at h1
    have h2 := h.len
    have h3 := h.cap
    rcases hL.grow with hg | hg
    · omega
    · rw [hg] at hsl
      simp only [List.length_nil] at hsl
      omega
  · intro j hj
    rw [hDat, hDid]
    rcases List.mem_append.1 (hP.mem_iff.1 hj) with hj | hj
    · rw [Ar.idAt_congr (hBA j hj), hL.atn, h.at_ j hj]
      exact fun hm => (hx _ hm).1 (h.tr.mem hj)
    · exact hL.at_ j hj
  · intro x hm
    have hm2 := fun e => hm (hO.mem_iff.2 e)
    rw [hDat, hL.atn x (fun e => hm2 (List.mem_append.2 (.inr e))), h.atn x (fun e => hm2 (List.mem_append.2 (.inl e)))]
  · rw [hDcnt, hL.cnt, h.cnt, hS]
  · intro x hm
    rcases List.mem_append.1 (hO.mem_iff.1 hm) with hm | hm
    · exact h.i64 x hm
    · exact (hx x hm).2
  · intro j c hj hn
    have hn2 := fun e => hn (hP.mem_iff.2 e)
    have hjB : j ∉ post B i n := fun e => hn2 (List.mem_append.2 (.inr e))
    have hjq : j ≠ q := fun e => hn2 (List.mem_append.2 (.inl (e ▸ hqm)))
    rw [hDne j hjq] at hj
    by_cases hjl : j < A.cells.length
    · rw [hL.out j hjl hjB] at hj
      exact h.cel hj
    · exfalso
      have hjl2 : j < B.cells.length := by
        rcases Nat.lt_or_ge j B.cells.length with h | h
        · exact h
        · rw [List.getElem?_eq_none h] at hj; cases hj
      have : j ∈ news A B := mem_news.2 (.inr ⟨by omega, by have := hL.le; omega⟩)
      rcases List.mem_append.1 (hL.perm.mem_iff.2 this) with e | e
      · exact hjB e
      · obtain ⟨x, hxm, rfl⟩ := List.mem_map.1 e
        obtain ⟨m, e2, hm⟩ := h.frb x (hL.frs x hxm)
        rw [e2] at hjl
        simp at hjl
        omega
end
end Go.Tr

/-
  Tree, the program's: Add.
-/

namespace Go.Tr
open Go.Sl Go.Ls
section
variable {A : Ar} {top : Nd}
/-- A group's place, as the document has it. -/
theorem Abs.grp (h : Abs A top) (i : Int) : (A.grp i = (0, 31) ∧ Nd.find i top = none) ∨ (∃ (q : Nat) (qp : Int) (np : Nd) (R : List Nat) (RO : List Int) (hq : q < A.cells.length), A.at_ i = some (q : Int) ∧ q ∈ post A 0 top ∧ np.id = i ∧ Nd.find i top = some np ∧ Foc A (-1) 0 top q qp np R RO ∧ (A.cells[q]).grp = np.grp ∧ A.grp i = if np.grp = true then ((q : Int), 0) else (0, 33)) := by
  rcases h.cases i with ⟨e, hn⟩ | ⟨q, e, hq, hid, hm⟩
  · refine .inl ⟨by rw [Ar.grp, e], Nd.find_none _ _ hn⟩
  · obtain ⟨qp, np, R, RO, f⟩ := h.foc hq
    obtain ⟨hql, h1, h2, _⟩ := f.tr.ex
    have hnp : np.id = i := by rw [← f.id, hid]
    refine .inr ⟨q, qp, np, R, RO, hql, e, hq, hnp, by rw [← hnp]; exact f.find, f, h2, ?_⟩
    simp only [Ar.grp, e, Int.toNat_natCast, List.getElem?_eq_getElem hql, Option.map_some, h2, Option.getD_some]
end
end Go.Tr
namespace Go.Proofs.YtggcpoleklcmkaaGreatDoor
open Go.Sl Go.Ls Go.Tr
set_option maxRecDepth 100000
set_option maxHeartbeats 4000000
set_option linter.unusedVariables false
set_option linter.unusedSimpArgs false
attribute [local irreducible] WC WL WX WK WA WAK Val Ctr RunRes ResIs Rd At sl box pt Exit.then Exit.inBlock bodyPost Code.wp wpList
/-- A turned tree, and a number. -/
def RetA (A : Ar) (r : Nd × Int) : Value → Mem → List HP → Prop := fun v I' L' => v = vi r.2 ∧ ∃ B, B.b = A.b ∧ L' = B.hp ∧ Abs B r.1
theorem tAdd (A : Ar) (top : Nd) (hA : Abs A top) (nd : Nd) (kv : Value) (parent index : Int) (I : Mem) (hb : nd.size ≤ 1000000) (hid : I64 nd.id) (hkv : LsAt Nd.Rp I nd.kids kv) :
    Ctr Tryz.prog 109 [ptr A.b, vi parent, vi index, .agg #[vi nd.id, .bool nd.grp, kv]] I A.hp (RetA A (Nd.add top parent index nd)) := by
  obtain ⟨ka, kc, rfl⟩ := hkv.sl
  have hsle := hA.size_le
  refine Ctr.intro Tryz.func109 rfl rfl rfl fun E F => ?_
  refine WC.seq ?_
  refine WC.region ?_
  (refine WL.boxA rfl rfl ?_; intro _)
  refine WL.nApp ?_
  refine WL.val (Val.assignI rfl) rfl ?_
  refine WL.nil ?_
  refine WX.thenC ?_
  refine WC.seq ?_
  refine WC.region ?_
  refine WL.val (Val.moveP rfl) rfl ?_
  refine WL.val (Val.moveI rfl) rfl ?_
  rename_i g7
  refine WL.boxFrz 6 rfl fun I1 hI1 hA1 => ?_
  have hkv1 := hkv.mono hI1
  refine WL.callK [1, 1, 1, 1, 1] rfl rfl rfl (tGroup A parent _ hA.ok) rfl ?_
  rintro _ rfl
  rcases hA.grp parent with ⟨hg, hfn⟩ | ⟨q, qp, np, R, RO, hql, hat, hqm, hnp, hfind, f, hcg, hg⟩
  · rw [hg]
    refine WL.val (Val.moveT rfl) rfl ?_
    refine WL.val (Val.extractI rfl rfl) rfl ?_
    refine WL.val (Val.extractI rfl rfl) rfl ?_
    refine WL.val (Val.assignI rfl) rfl ?_
    refine WL.val (Val.assignI rfl) rfl ?_
    refine WL.nil ?_
    refine WX.thenC ?_
    refine WC.seq ?_
    refine WC.seq ?_
    refine WC.region ?_
    refine WL.val (Val.moveI rfl) rfl ?_
    refine WL.val (Val.neq rfl rfl (bne_iff_ne.2 (by omega))) rfl ?_
    refine WL.nil ?_
    refine WX.thenC ?_
    refine WC.condT rfl ?_
    refine WC.seq ?_
    refine WC.region ?_
    refine WL.val (Val.moveI rfl) rfl ?_
    refine WL.val (Val.assignI rfl) rfl ?_
    refine WL.nil ?_
    refine WX.thenC ?_
    refine WC.ret ?_
    refine WX.thenRet ?_
    apply WX.doneP (ks := [0, 0, 0, 0, 0])
    case hres => exact RunRes.r1 rfl (ResIs.tmpI rfl)
    case hI => first | exact Mem.le.refl _ | assumption
    rw [Nd.add, hfn]
    exact ⟨rfl, A, rfl, rfl, hA⟩
  rw [hg]
  cases hng : np.grp
  · skip
    refine WL.val (Val.moveT rfl) rfl ?_
    refine WL.val (Val.extractI rfl rfl) rfl ?_
    refine WL.val (Val.extractI rfl rfl) rfl ?_
    refine WL.val (Val.assignI rfl) rfl ?_
    refine WL.val (Val.assignI rfl) rfl ?_
    refine WL.nil ?_
    refine WX.thenC ?_
    refine WC.seq ?_
    refine WC.seq ?_
    refine WC.region ?_
    refine WL.val (Val.moveI rfl) rfl ?_
    refine WL.val (Val.neq rfl rfl rfl) rfl ?_
    refine WL.nil ?_
    refine WX.thenC ?_
    refine WC.condT rfl ?_
    refine WC.seq ?_
    refine WC.region ?_
    refine WL.val (Val.moveI rfl) rfl ?_
    refine WL.val (Val.assignI rfl) rfl ?_
    refine WL.nil ?_
    refine WX.thenC ?_
    refine WC.ret ?_
    refine WX.thenRet ?_
    apply WX.doneP (ks := [0, 0, 0, 0, 0])
    case hres => exact RunRes.r1 rfl (ResIs.tmpI rfl)
    case hI => first | exact Mem.le.refl _ | assumption
    rw [Nd.add, hfind]
    simp only [hng, if_true]
    exact ⟨rfl, A, rfl, rfl, hA⟩
  have hks := f.tr.ex
  obtain ⟨_, hcid, _, hpar, hks⟩ := hks
  have hlk := hks.len
  have hc3 := Ar.c3 hql
  have hnps := f.size
  have hnpl := Nd.len_le_sizes np.kids
  have hnpz := sizes_lt np
  refine WL.rowOpen 5 q rfl (Ar.row hql) fun ra rc hkvq _ => ?_
  rw [hkvq, hlk] at hc3
  simp only [if_true]
  by_cases h0 : index < 0
  · skip
    refine WL.val (Val.moveT rfl) rfl ?_
    refine WL.val (Val.extractI rfl rfl) rfl ?_
    refine WL.val (Val.extractI rfl rfl) rfl ?_
    refine WL.val (Val.assignI rfl) rfl ?_
    refine WL.val (Val.assignI rfl) rfl ?_
    refine WL.nil ?_
    refine WX.thenC ?_
    refine WC.seq ?_
    refine WC.seq ?_
    refine WC.region ?_
    refine WL.val (Val.moveI rfl) rfl ?_
    refine WL.val (Val.neq rfl rfl (bne_eq_false_iff_eq.2 (by omega))) rfl ?_
    refine WL.nil ?_
    refine WX.thenC ?_
    refine WC.condF rfl ?_
    refine WC.skip ?_
    refine WX.thenC ?_
    refine WC.seq ?_
    refine WC.seq ?_
    refine WC.region ?_
    refine WL.val (Val.moveI rfl) rfl ?_
    refine WL.val (Val.lss rfl rfl (decide_eq_true (by omega))) rfl ?_
    refine WL.val (Val.moveB rfl) rfl ?_
    refine WL.gF rfl rfl rfl rfl ?_
    refine WL.gF rfl rfl rfl rfl ?_
    refine WL.gF rfl rfl rfl rfl ?_
    refine WL.gF rfl rfl rfl rfl ?_
    refine WL.gF rfl rfl rfl rfl ?_
    refine WL.gF rfl rfl rfl rfl ?_
    refine WL.gF rfl rfl rfl rfl ?_
    refine WL.gF rfl rfl rfl rfl ?_
    refine WL.gF rfl rfl rfl rfl ?_
    refine WL.gF rfl rfl rfl rfl ?_
    refine WL.gF rfl rfl rfl rfl ?_
    refine WL.val (Val.pick rfl) rfl ?_
    refine WL.nil ?_
    refine WX.thenC ?_
    refine WC.condT rfl ?_
    refine WC.seq ?_
    refine WC.region ?_
    refine WL.val (Val.assignI rfl) rfl ?_
    refine WL.nil ?_
    refine WX.thenC ?_
    refine WC.ret ?_
    refine WX.thenRet ?_
    apply WX.doneP (ks := [0, 0, 0, 0, 0])
    case hres => exact RunRes.r1 rfl (ResIs.tmpI rfl)
    case hI => first | exact Mem.le.refl _ | assumption
    rw [Nd.add, hfind]
    simp only [hng, Bool.true_eq_false, if_false]
    rw [if_pos (.inl h0)]
    exact ⟨rfl, A, rfl, rfl, hA⟩
  obtain ⟨k, rfl⟩ := Int.eq_ofNat_of_zero_le (by omega : 0 ≤ index)
  by_cases h1 : np.kids.length < k
  · skip
    refine WL.val (Val.moveT rfl) rfl ?_
    refine WL.val (Val.extractI rfl rfl) rfl ?_
    refine WL.val (Val.extractI rfl rfl) rfl ?_
    refine WL.val (Val.assignI rfl) rfl ?_
    refine WL.val (Val.assignI rfl) rfl ?_
    refine WL.nil ?_
    refine WX.thenC ?_
    refine WC.seq ?_
    refine WC.seq ?_
    refine WC.region ?_
    refine WL.val (Val.moveI rfl) rfl ?_
    refine WL.val (Val.neq rfl rfl (bne_eq_false_iff_eq.2 (by omega))) rfl ?_
    refine WL.nil ?_
    refine WX.thenC ?_
    refine WC.condF rfl ?_
    refine WC.skip ?_
    refine WX.thenC ?_
    refine WC.seq ?_
    refine WC.seq ?_
    refine WC.region ?_
    refine WL.val (Val.moveI rfl) rfl ?_
    refine WL.val (Val.lss rfl rfl (decide_eq_false (by omega))) rfl ?_
    refine WL.val (Val.moveB rfl) rfl ?_
    refine WL.gT rfl rfl ?_
    refine WL.val (Val.moveI rfl) rfl ?_
    refine WL.gT rfl rfl ?_
    refine WL.val (Val.moveP rfl) rfl ?_
    refine WL.gT rfl rfl ?_
    refine WL.val (Val.nilCheckP rfl) rfl ?_
    refine WL.gT rfl rfl ?_
    refine WL.val (Val.fldAddr rfl) rfl ?_
    refine WL.gT rfl rfl ?_
    refine WL.val (Val.loadS rfl (Rd.own1 1 rfl rfl)) rfl ?_
    refine WL.gT rfl rfl ?_
    refine WL.val (Val.moveI rfl) rfl ?_
    refine WL.gT rfl rfl ?_
    refine WL.val (Val.indexAddr rfl rfl (by omega) (by omega)) rfl ?_
    refine WL.gT rfl rfl ?_
    refine WL.val (Val.fldAddr rfl) rfl ?_
    refine WL.gT rfl rfl ?_
    refine WL.val (Val.loadS rfl (Rd.sl1 2 rfl (by assumption))) rfl ?_
    refine WL.gT rfl rfl ?_
    refine WL.val (Val.len rfl) rfl ?_
    refine WL.gT rfl rfl ?_
    refine WL.val (Val.gtr rfl rfl (decide_eq_true (by omega))) rfl ?_
    refine WL.val (Val.pick rfl) rfl ?_
    refine WL.nil ?_
    refine WX.thenC ?_
    refine WC.condT rfl ?_
    refine WC.seq ?_
    refine WC.region ?_
    refine WL.val (Val.assignI rfl) rfl ?_
    refine WL.nil ?_
    refine WX.thenC ?_
    refine WC.ret ?_
    refine WX.thenRet ?_
    apply WX.doneP (ks := [0, 0, 0, 0, 0])
    case hres => exact RunRes.r1 rfl (ResIs.tmpI rfl)
    case hI => first | exact Mem.le.refl _ | assumption
    rw [Nd.add, hfind]
    simp only [hng, Bool.true_eq_false, if_false]
    rw [if_pos (.inr (by omega))]
    exact ⟨rfl, A, rfl, rfl, hA⟩
  have hn01 : ¬ ((k : Int) < 0 ∨ (np.kids.length : Int) < (k : Int)) := by omega
  obtain ⟨l, hl, hdep, hlp⟩ := hA.up hqm
  have hid2 : A.idAt q = parent := by rw [f.id, hnp]
  rw [hid2] at hdep
  have hdle := (Nd.depth_le parent top).1
  refine WL.val (Val.moveT rfl) rfl ?_
  refine WL.val (Val.extractI rfl rfl) rfl ?_
  refine WL.val (Val.extractI rfl rfl) rfl ?_
  refine WL.val (Val.assignI rfl) rfl ?_
  refine WL.val (Val.assignI rfl) rfl ?_
  refine WL.nil ?_
  refine WX.thenC ?_
  refine WC.seq ?_
  refine WC.seq ?_
  refine WC.region ?_
  refine WL.val (Val.moveI rfl) rfl ?_
  refine WL.val (Val.neq rfl rfl (bne_eq_false_iff_eq.2 (by omega))) rfl ?_
  refine WL.nil ?_
  refine WX.thenC ?_
  refine WC.condF rfl ?_
  refine WC.skip ?_
  refine WX.thenC ?_
  refine WC.seq ?_
  refine WC.seq ?_
  refine WC.region ?_
  refine WL.val (Val.moveI rfl) rfl ?_
  refine WL.val (Val.lss rfl rfl (decide_eq_false (by omega))) rfl ?_
  refine WL.val (Val.moveB rfl) rfl ?_
  refine WL.gT rfl rfl ?_
  refine WL.val (Val.moveI rfl) rfl ?_
  refine WL.gT rfl rfl ?_
  refine WL.val (Val.moveP rfl) rfl ?_
  refine WL.gT rfl rfl ?_
  refine WL.val (Val.nilCheckP rfl) rfl ?_
  refine WL.gT rfl rfl ?_
  refine WL.val (Val.fldAddr rfl) rfl ?_
  refine WL.gT rfl rfl ?_
  refine WL.val (Val.loadS rfl (Rd.own1 1 rfl rfl)) rfl ?_
  refine WL.gT rfl rfl ?_
  refine WL.val (Val.moveI rfl) rfl ?_
  refine WL.gT rfl rfl ?_
  refine WL.val (Val.indexAddr rfl rfl (by omega) (by omega)) rfl ?_
  refine WL.gT rfl rfl ?_
  refine WL.val (Val.fldAddr rfl) rfl ?_
  refine WL.gT rfl rfl ?_
  refine WL.val (Val.loadS rfl (Rd.sl1 2 rfl (by assumption))) rfl ?_
  refine WL.gT rfl rfl ?_
  refine WL.val (Val.len rfl) rfl ?_
  refine WL.gT rfl rfl ?_
  refine WL.val (Val.gtr rfl rfl (decide_eq_false (by omega))) rfl ?_
  refine WL.val (Val.pick rfl) rfl ?_
  refine WL.nil ?_
  refine WX.thenC ?_
  refine WC.condF rfl ?_
  refine WC.skip ?_
  refine WX.thenC ?_
  refine WC.seq ?_
  refine WC.seq ?_
  refine WC.drawK 999 I1 [] rfl (by kernel_rfl) rfl rfl ?_
  refine WA.take 0 rfl (by kernel_rfl) rfl (fun w h => (h.sub [] rfl)) (Val.moveP rfl) rfl ?_
  refine WA.take 1 rfl (by kernel_rfl) rfl (fun w h => (h.sub [] rfl)) (Val.loadI rfl (by assumption) rfl) rfl ?_
  refine WA.take 2 rfl (by kernel_rfl) rfl (fun w h => (h.sub [] rfl)) (Val.moveP rfl) rfl ?_
  refine WA.take 3 rfl (by kernel_rfl) rfl (fun w h => (h.sub [] rfl)) (Val.moveI rfl) rfl ?_
  refine WA.eff1 (i := 4) (by kernel_rfl) rfl rfl ?_
  refine WL.callK [1, 1, 1, 1, 1] rfl rfl rfl (tDepthP A q l _ hA.ok hl (by omega)) rfl ?_
  rintro _ rfl
  refine WL.nil ?_
  refine WK.anyStep (fun w h => (h.sub [] rfl)) ?_
  refine WA.take 5 rfl (by kernel_rfl) rfl (fun w h => (h.sub [] rfl)) (Val.add rfl rfl (wrap_i64 (by omega) (by omega))) rfl ?_
  refine WA.eff1 (i := 6) (by kernel_rfl) rfl rfl ?_
  refine WL.callR [1, 1, 1, 1, 1] rfl rfl rfl (tFits A top hA nd _ _ _ (by omega) hid hkv1 (by omega) (by omega)) rfl ?_
  rintro _ I2 hI2 rfl
  refine WL.nil ?_
  refine WK.anyStep (fun w h => (h.sub [] rfl).less (hI2)) ?_
  refine WA.take 7 rfl (by kernel_rfl) rfl (fun w h => (h.sub [] rfl).less (hI2)) (Val.assignI rfl) rfl ?_
  refine WA.done (by kernel_rfl) ?_
  have hJ := hI1.trans hI2
  have hA2 := hA1.mono hI2
  rw [← hdep]
  by_cases he : Nd.fits top nd (Nd.depth parent top + 1) = 0
  case neg =>
    refine WX.thenC ?_
    refine WC.seq ?_
    refine WC.region ?_
    refine WL.val (Val.moveI rfl) rfl ?_
    refine WL.val (Val.neq rfl rfl (bne_iff_ne.2 (by omega))) rfl ?_
    refine WL.nil ?_
    refine WX.thenC ?_
    refine WC.condT rfl ?_
    refine WC.seq ?_
    refine WC.region ?_
    refine WL.val (Val.moveI rfl) rfl ?_
    refine WL.val (Val.assignI rfl) rfl ?_
    refine WL.nil ?_
    refine WX.thenC ?_
    refine WC.ret ?_
    refine WX.thenRet ?_
    apply WX.doneP (ks := [0, 0, 0, 0, 0])
    case hres => exact RunRes.r1 rfl (ResIs.tmpI rfl)
    case hI => first | exact Mem.le.refl _ | assumption
    rw [Nd.add, hfind]
    simp only [hng, Bool.true_eq_false, if_false]
    rw [if_neg hn01, if_pos he]
    exact ⟨rfl, A, rfl, rfl, hA⟩
  rw [he]
  obtain ⟨ho, hx, hsz⟩ := Nd.fits_ok he
  refine WX.thenC ?_
  refine WC.seq ?_
  refine WC.region ?_
  refine WL.val (Val.moveI rfl) rfl ?_
  refine WL.val (Val.neq rfl rfl (bne_eq_false_iff_eq.2 (by omega))) rfl ?_
  refine WL.nil ?_
  refine WX.thenC ?_
  refine WC.condF rfl ?_
  refine WC.skip ?_
  refine WX.thenC ?_
  refine WC.seq ?_
  refine WC.region ?_
  refine WL.val (Val.moveP rfl) rfl ?_
  refine WL.val (Val.loadI rfl (by assumption) rfl) rfl ?_
  refine WL.val (Val.moveI rfl) rfl ?_
  refine WL.callAll rfl rfl (tLay _ nd (Nat.le_refl _) A q _ _ (by omega) (hA.layOk ho (fun x hm => (hx x hm).1) (by omega)) (hkv1.mono hI2)) rfl ?_
  rintro _ I3 L3 hI3 ⟨B, i, rfl, rfl, hL⟩
  have hx2 : ∀ x ∈ nd.order, x ∉ top.order ∧ I64 x := fun x hm => ⟨(hx x hm).1, by have := (hx x hm).2; exact ⟨by omega, by omega⟩⟩
  have hkn : k ≤ np.kids.length := by omega
  obtain ⟨hqB, _, heqB, _⟩ := hA.add f ho hx2 hsz hkn hL (.slice none 0 0)
  have hbB := hL.b
  rw [← hbB]
  have hc3B := Ar.c3 hqB
  have hrowB := Ar.row hqB
  have hklB : (B.cells[q]).kids.length = np.kids.length := by rw [heqB, hlk]
  have hJ3 := hJ.trans hI3
  refine WL.val (Val.assignI rfl) rfl ?_
  refine WL.nil ?_
  refine WX.thenC ?_
  refine WC.seq ?_
  refine WC.rowOpen 5 q rfl hrowB fun rb rd hkvB _ => ?_
  rw [hkvB] at hc3B hrowB
  refine WC.drawK 19 I3 [1, 1] rfl (by kernel_rfl) rfl rfl ?_
  refine WA.take 0 rfl (by kernel_rfl) rfl (fun w h => (h.sub [1, 1] rfl)) (Val.moveP rfl) rfl ?_
  refine WA.take 1 rfl (by kernel_rfl) rfl (fun w h => (h.sub [1, 1] rfl)) (Val.nilCheckP rfl) rfl ?_
  refine WA.take 2 rfl (by kernel_rfl) rfl (fun w h => (h.sub [1, 1] rfl)) (Val.fldAddr rfl) rfl ?_
  refine WA.take 3 rfl (by kernel_rfl) rfl (fun w h => (h.sub [1, 1] rfl)) (Val.loadS rfl (Rd.own1 0 rfl rfl)) rfl ?_
  refine WA.take 4 rfl (by kernel_rfl) rfl (fun w h => (h.sub [1, 1] rfl)) (Val.moveI rfl) rfl ?_
  refine WA.take 5 rfl (by kernel_rfl) rfl (fun w h => (h.sub [1, 1] rfl)) (Val.moveP rfl) rfl ?_
  refine WA.take 6 rfl (by kernel_rfl) rfl (fun w h => (h.sub [1, 1] rfl)) (Val.nilCheckP rfl) rfl ?_
  refine WA.take 7 rfl (by kernel_rfl) rfl (fun w h => (h.sub [1, 1] rfl)) (Val.fldAddr rfl) rfl ?_
  refine WA.take 8 rfl (by kernel_rfl) rfl (fun w h => (h.sub [1, 1] rfl)) (Val.loadS rfl (Rd.own1 0 rfl rfl)) rfl ?_
  refine WA.take 9 rfl (by kernel_rfl) rfl (fun w h => (h.sub [1, 1] rfl)) (Val.moveI rfl) rfl ?_
  refine WA.take 10 rfl (by kernel_rfl) rfl (fun w h => (h.sub [1, 1] rfl)) (Val.indexAddr rfl rfl (by omega) (by omega)) rfl ?_
  refine WA.take 11 rfl (by kernel_rfl) rfl (fun w h => (h.sub [1, 1] rfl)) (Val.fldAddr rfl) rfl ?_
  first | refine WA.take 12 rfl (by kernel_rfl) rfl (fun w h => (h.sub [1, 1] rfl)) (Val.loadS rfl (Rd.sl1 1 rfl hc3B)) rfl ?_ | refine WA.takeGT 12 rfl (by kernel_rfl) rfl (fun w h => (h.sub [1, 1] rfl)) rfl rfl (Val.loadS rfl (Rd.sl1 1 rfl hc3B)) rfl ?_
  refine WA.take 13 rfl (by kernel_rfl) rfl (fun w h => (h.sub [1, 1] rfl)) (Val.moveI rfl) rfl ?_
  refine WA.take 14 rfl (by kernel_rfl) rfl (fun w h => (h.sub [1, 1] rfl)) (Val.moveI rfl) rfl ?_
  refine WA.eff1 (i := 15) (by kernel_rfl) rfl rfl ?_
  (refine WL.buildSlice (by with_unfolding_all exact rfl) rfl (by with_unfolding_all exact rfl) rfl ?_; intro _)
  rename_i g8
  refine WL.nApp ?_
  refine WL.nil ?_
  refine WK.anyStep (fun w h => (h.sub [1, 1] rfl)) ?_
  refine WA.eff1 (i := 16) (by kernel_rfl) rfl rfl ?_
  refine WL.rowTake 5 q rfl hrowB ?_
  refine WL.boxSl (xs := [vi (i : Int)]) (n := 1) (sz := 1) 7 rfl rfl (by decide) ?_
  refine WL.callP [0, 6] rfl rfl (sInsert (B.cells[q]).kids [(i : Int)] k (.slice rb (B.cells[q]).kids.length rd) (.slice (some ⟨g8, 0, none⟩) 1 1) _ (by omega) Nat.zero_lt_one (by rw [hklB]; simp only [List.length_singleton]; omega)) rfl ?_
  rintro rv _ _ hI4 ⟨rfl, rfl⟩
  refine WL.nApp ?_
  have hlen : ((B.cells[q]).kids.take k ++ [(i : Int)] ++ (B.cells[q]).kids.drop k).length = (B.cells[q]).kids.length + [(i : Int)].length := by
    simp only [List.length_append, List.length_take, List.length_drop]; omega
  rw [← hlen]
  refine WL.conv (fun w h => h.sub [6, 0, 0, 0, 0, 0, 0] rfl) ?_
  refine WL.rowPut 5 q rfl (by simpa using hqB) ?_
  refine WL.nSet ?_
  refine WL.rowOpen 5 q rfl (List.getElem?_set_self (by simpa using hqB)) fun ra2 rc2 hr _ => ?_
  subst hr
  refine WL.nil ?_
  refine WK.anyStep (fun w h => (h.sub [1, 1] rfl)) ?_
  refine WA.eff1 (i := 17) (by kernel_rfl) rfl rfl ?_
  refine WL.val (Val.indexAddr rfl rfl (by omega) (by omega)) rfl ?_
  refine WL.nil ?_
  refine WK.anyStep (fun w h => (h.sub [1, 1] rfl)) ?_
  refine WA.eff1 (i := 18) (by kernel_rfl) rfl rfl ?_
  refine WL.val (Val.fldAddr rfl) rfl ?_
  refine WL.nil ?_
  refine WK.anyStep (fun w h => (h.sub [1, 1] rfl)) ?_
  refine WA.eff1 (i := 19) (by kernel_rfl) rfl rfl ?_
  refine WL.storeSl 2 rfl rfl rfl rfl (by show 0 + (q : Int).toNat * 4 + 3 + 1 ≤ B.cells.length * 4; rw [Int.toNat_natCast]; omega) ?_
  refine WL.nSet ?_
  refine WL.nil ?_
  refine WK.anyLast ?_
  refine WA.done (by kernel_rfl) ?_
  refine WX.thenC ?_
  refine WC.seq ?_
  refine WC.region ?_
  refine WL.val (Val.assignI rfl) rfl ?_
  refine WL.nil ?_
  refine WX.thenC ?_
  refine WC.ret ?_
  apply WX.doneP (ks := [0, 0, 0, 0, 0])
  case hres => exact RunRes.r1 rfl (ResIs.tmpI rfl)
  case hI => first | exact Mem.le.refl _ | assumption
  obtain ⟨_, _, _, hAbs⟩ := hA.add f ho hx2 hsz hkn hL (.slice ra2 ((B.cells[q]).kids.take k ++ [(i : Int)] ++ (B.cells[q]).kids.drop k).length rc2)
  rw [Nd.add, hfind]
  simp only [hng, Bool.true_eq_false, if_false]
  rw [if_neg hn01, if_neg (by rw [he]; decide), ← hnp]
  refine ⟨rfl, _, ?_, ?_, hAbs⟩
  · exact hbB
  · rw [Ar.setKids_hp B q _ _ hqB]; rfl
end Go.Proofs.YtggcpoleklcmkaaGreatDoor

/-
  Tree, the plain law (5): what is cut off, and removed.
-/

namespace Go.Tr
open Go.Sl Go.Ls
set_option linter.unusedVariables false
set_option linter.unusedSimpArgs false
theorem Nd.ext3 {a b : Nd} (h1 : a.id = b.id) (h2 : a.grp = b.grp) (h3 : a.kids = b.kids) : a = b := by
  cases a; cases b
  simp only [Nd.id, Nd.grp, Nd.kids] at h1 h2 h3
  rw [h1, h2, h3]
/-- What lies at a place is one node. -/
theorem Tr.uniq2 (A : Ar) : (∀ (nd : Nd) (p : Int) (i : Nat), Tr A p i nd → ∀ (p' : Int) (nd' : Nd), Tr A p' i nd' → nd = nd') ∧ (∀ (ns : List Nd) (p : Int) (l : List Int), Trs A p l ns → ∀ (p' : Int) (ns' : List Nd), Trs A p' l ns' → ns = ns') := by
  refine Tr.ind (P := fun p i nd => ∀ (p' : Int) (nd' : Nd), Tr A p' i nd' → nd = nd') (Ps := fun p l ns => ∀ (p' : Int) (ns' : List Nd), Trs A p' l ns' → ns = ns') ?_ ?_ ?_
  · intro p i nd hi h1 h2 h3 h4 ih p' nd' h'
    obtain ⟨_, k1, k2, k3, k4⟩ := h'.ex
    exact Nd.ext3 (h1.symm.trans k1) (h2.symm.trans k2) (ih _ _ k4)
  · intro p p' ns' h'
    cases ns' with
    | nil => rfl
    | cons _ _ => rw [Trs] at h'; exact h'.elim
  · intro p q l n ns t1 t2 a b p' ns' h'
    cases ns' with
    | nil => rw [Trs] at h'; exact h'.elim
    | cons n' ns' =>
      rw [Trs] at h'
      obtain ⟨⟨r, e, t1'⟩, t2'⟩ := h'
      have : r = q := by omega
      subst this
      rw [a _ _ t1', b _ _ t2']
theorem Tr.uniq {A : Ar} {p p' : Int} {i : Nat} {nd nd' : Nd} (h : Tr A p i nd) (h' : Tr A p' i nd') : nd = nd' := (Tr.uniq2 A).1 nd p i h p' nd' h'
theorem drop_eq {α : Type} {l : List α} {k : Nat} (h : k < l.length) : l.drop k = l[k] :: l.drop (k + 1) := List.drop_eq_getElem_cons h
section
variable {A : Ar} {top : Nd}
/-- A node that is not the root: where it is, and what there is. -/
theorem Abs.node (h : Abs A top) {i : Nat} (hi : i ∈ post A 0 top) (h0 : i ≠ 0) : ∃ (y k : Nat) (yp : Int) (ny n : Nd) (R : List Nat) (RO : List Int) (hk : k < ny.kids.length),
    Lies A i y k ∧ Foc A (-1) 0 top y yp ny R RO ∧ ny.kids[k] = n ∧ Tr A (y : Int) i n ∧ n.id = A.idAt i ∧ Nd.find (A.idAt i) top = some n ∧ Nd.whr (A.idAt i) top = some (ny.id, (k : Int)) ∧ Nd.find ny.id top = some ny ∧
    Nd.remove top (A.idAt i) = (Nd.with_ ny.id (ny.kids.take k ++ ny.kids.drop (k + 1)) top, n, ny.id, (k : Int), 0) := by
  obtain ⟨y, hy, k, hlies, hw⟩ := h.whr hi h0
  obtain ⟨yp, ny, R, RO, f⟩ := h.foc hy
  have hl := hlies
  obtain ⟨hil, hyl, hpar, e2, e3⟩ := hl
  obtain ⟨_, _, _, _, hks⟩ := f.tr.ex
  have hkk : k < (A.cells[y]).kids.length := (List.getElem?_eq_some_iff.1 e2).1
  have hk : k < ny.kids.length := by rw [← hks.len]; exact hkk
  obtain ⟨q, hq, htq⟩ := hks.get k hkk hk
  have : q = i := by
    rw [List.getElem?_eq_getElem hkk, hq] at e2
    injection e2 with e2
    omega
  subst this
  obtain ⟨ip, n', R', RO', f'⟩ := h.foc hi
  have hnn : n' = ny.kids[k] := f'.tr.uniq htq
  have hidn : ny.kids[k].id = A.idAt q := by rw [htq.idAt]
  have hyid : A.idAt y = ny.id := f.id
  rw [hyid] at hw
  have hfi : Nd.find (A.idAt q) top = some ny.kids[k] := by rw [← hnn, f'.id]; exact f'.find
  refine ⟨y, k, yp, ny, ny.kids[k], R, RO, hk, hlies, f, rfl, htq, hidn, hfi, hw, f.find, ?_⟩
  have hne : A.idAt q ≠ 0 := fun e => h0 ((h.ne0 hi).1 e)
  rw [Nd.remove, if_neg hne, hfi]
  simp only [hw, f.find, Int.toNat_natCast]
/-- What a place's cutting off leaves. -/
structure Cutted (A B : Ar) (top top1 : Nd) (i : Nat) (n : Nd) (y : Nat) : Prop where
  tr : Tr B (-1) 0 top1
  trn : Tr B (y : Int) i n
  pn : post B i n = post A i n
  perm : (post B 0 top1 ++ post A i n).Perm (post A 0 top)
  order : (top1.order ++ n.order).Perm top.order
  id0 : top1.id = top.id
  g0 : top1.grp = top.grp
  len : B.cells.length = A.cells.length
  free : B.free = A.free
  at_ : B.at_ = A.at_
  cnt : B.cnt = A.cnt
  idAt : ∀ j, B.idAt j = A.idAt j
  out : ∀ j, j ≠ y → B.cells[j]? = A.cells[j]?
  y1 : y ∈ post B 0 top1
  y0 : y ∈ post A 0 top
theorem Abs.cut (h : Abs A top) {i y k : Nat} {yp : Int} {ny n : Nd} {R : List Nat} {RO : List Int} (hl : Lies A i y k) (f : Foc A (-1) 0 top y yp ny R RO) (hk : k < ny.kids.length) (hn : ny.kids[k] = n) (ht : Tr A (y : Int) i n) (kv : Value) :
    ∃ hy : y < A.cells.length, Cutted A (A.setKids y ((A.cells[y]).kids.take k ++ (A.cells[y]).kids.drop (k + 1)) kv) top (Nd.with_ ny.id (ny.kids.take k ++ ny.kids.drop (k + 1)) top) i n y := by
  have hpn := h.pnd
  obtain ⟨hyA, hpy, hps, hyp⟩ := f.posts_dis hpn
  refine ⟨hyA, ?_⟩
  obtain ⟨hil, _, _, e2, e3⟩ := hl
  obtain ⟨_, hid, hgr, hpar, hks⟩ := f.tr.ex
  have hkk : k < (A.cells[y]).kids.length := by rw [hks.len]; exact hk
  have hki : (A.cells[y]).kids[k] = (i : Int) := by
    rw [List.getElem?_eq_getElem hkk] at e2; injection e2
  obtain ⟨hyD, eD⟩ := setKids_at A y ((A.cells[y]).kids.take k ++ (A.cells[y]).kids.drop (k + 1)) kv hyA
  generalize hDD : A.setKids y ((A.cells[y]).kids.take k ++ (A.cells[y]).kids.drop (k + 1)) kv = D at *
  have hDne : ∀ j, j ≠ y → D.cells[j]? = A.cells[j]? := fun j hj => by rw [← hDD]; exact setKids_ne _ _ _ _ hj
  obtain ⟨s1, s2, s3⟩ := Trs.split k hks
  rw [drop_eq hkk, drop_eq hk, hki, hn] at s2 s3
  rw [posts_cons] at s3
  have s2' : Trs A (y : Int) ((A.cells[y]).kids.drop (k + 1)) (ny.kids.drop (k + 1)) := by rw [Trs] at s2; exact s2.2
  have hne : ∀ j ∈ posts A (A.cells[y]).kids ny.kids, j ≠ y := fun j hj e => hyp (e ▸ hj)
  obtain ⟨t1, u1⟩ := Trs.keep (A' := D) _ _ s1 (fun j hj => hDne j (hne j (by rw [s3]; exact List.mem_append.2 (.inl hj))))
  obtain ⟨t2, u2⟩ := Trs.keep (A' := D) _ _ s2' (fun j hj => hDne j (hne j (by rw [s3]; exact List.mem_append.2 (.inr (List.mem_append.2 (.inr hj))))))
  obtain ⟨tn, un⟩ := Tr.keep (A' := D) n _ i ht (fun j hj => hDne j (hne j (by rw [s3]; exact List.mem_append.2 (.inr (List.mem_append.2 (.inl hj))))))
  have htq : Tr D yp y (.mk ny.id ny.grp (ny.kids.take k ++ ny.kids.drop (k + 1))) := by
    refine Tr.mk hyD (by rw [eD]; exact hid) (by rw [eD]; exact hgr) (by rw [eD]; exact hpar) ?_
    rw [eD]
    exact t1.app t2
  have hpq' : post D y (.mk ny.id ny.grp (ny.kids.take k ++ ny.kids.drop (k + 1))) = posts A ((A.cells[y]).kids.take k) (ny.kids.take k) ++ posts A ((A.cells[y]).kids.drop (k + 1)) (ny.kids.drop (k + 1)) ++ [y] := by
    rw [(post_eq htq).2, eD]
    show posts D ((A.cells[y]).kids.take k ++ (A.cells[y]).kids.drop (k + 1)) (ny.kids.take k ++ ny.kids.drop (k + 1)) ++ [y] = _
    rw [posts_app D _ _ s1.len, u1, u2]
  obtain ⟨htr0, hperm0⟩ := f.with_ D (.mk ny.id ny.grp (ny.kids.take k ++ ny.kids.drop (k + 1))) rfl rfl htq (fun j hj => hDne j (fun e => f.notR hpn (e ▸ hj)))
  have htr : Tr D (-1) 0 (Nd.with_ ny.id (ny.kids.take k ++ ny.kids.drop (k + 1)) top) := htr0
  have hperm : (post D 0 (Nd.with_ ny.id (ny.kids.take k ++ ny.kids.drop (k + 1)) top)).Perm (post D y (.mk ny.id ny.grp (ny.kids.take k ++ ny.kids.drop (k + 1))) ++ R) := hperm0
  have hord : (Nd.with_ ny.id (ny.kids.take k ++ ny.kids.drop (k + 1)) top).order.Perm ((Nd.mk ny.id ny.grp (ny.kids.take k ++ ny.kids.drop (k + 1))).order ++ RO) := f.order' (.mk ny.id ny.grp (ny.kids.take k ++ ny.kids.drop (k + 1))) rfl rfl
  have hwid := with_id ny.id (ny.kids.take k ++ ny.kids.drop (k + 1)) top
  refine ⟨htr, tn, un, ?_, ?_, hwid.1, hwid.2, by rw [← hDD]; exact Ar.setKids_len _ _ _ _, by rw [← hDD]; rfl, by rw [← hDD]; rfl, by rw [← hDD]; rfl, fun j => by rw [← hDD]; exact setKids_id _ _ _ _ _, hDne, ?_, f.mem (self_post A y ny)⟩
  · refine (hperm.append_right _).trans (List.Perm.trans ?_ f.perm.symm)
    rw [hpq', hpy, s3]
    refine (perm_mid _ _ _).trans (List.Perm.append_right _ ?_)
    simp only [List.append_assoc]
    refine List.Perm.append_left _ ?_
    rw [← List.append_assoc, ← List.append_assoc]
    exact List.perm_append_comm.trans (by rw [List.append_assoc])
  · refine (hord.append_right _).trans (List.Perm.trans ?_ f.order.symm)
    refine (perm_mid _ _ _).trans (List.Perm.append_right _ ?_)
    have : Nd.orders ny.kids = Nd.orders (ny.kids.take k) ++ (n.order ++ Nd.orders (ny.kids.drop (k + 1))) := by
      rw [← hn]
      show _ = Nd.orders (ny.kids.take k) ++ Nd.orders (ny.kids[k] :: ny.kids.drop (k + 1))
      rw [← drop_eq hk, ← Nd.orders_app, List.take_append_drop]
    rw [Nd.order, Nd.orders_app, Nd.order_eq ny, this, List.cons_append]
    refine List.Perm.cons _ ?_
    rw [List.append_assoc]
    exact List.Perm.append_left _ List.perm_append_comm
  · exact hperm.mem_iff.2 (List.mem_append.2 (.inl (self_post D y _)))
theorem Cutted.od {A B : Ar} {top top1 : Nd} {i y : Nat} {n : Nd} (c : Cutted A B top top1 i n y) (h : Abs A top) : top1.order.Nodup ∧ n.order.Nodup ∧ ∀ x ∈ top1.order, x ∉ n.order := by
  have := c.order.nodup_iff.2 h.od
  exact ⟨(List.nodup_append.1 this).1, (List.nodup_append.1 this).2.1, fun x hx => dis_of_nodup this hx⟩
theorem Cutted.pd {A B : Ar} {top top1 : Nd} {i y : Nat} {n : Nd} (c : Cutted A B top top1 i n y) (h : Abs A top) : (post B 0 top1).Nodup ∧ (post A i n).Nodup ∧ ∀ x ∈ post B 0 top1, x ∉ post A i n := by
  have := c.perm.nodup_iff.2 h.pnd
  exact ⟨(List.nodup_append.1 this).1, (List.nodup_append.1 this).2.1, fun x hx => dis_of_nodup this hx⟩
theorem Cutted.size {A B : Ar} {top top1 : Nd} {i y : Nat} {n : Nd} (c : Cutted A B top top1 i n y) : top1.size + n.size = top.size := by
  have := c.order.length_eq
  rwa [List.length_append, Nd.order_len, Nd.order_len, Nd.order_len] at this
/-- A node is removed. -/
theorem Abs.remove (h : Abs A top) {B C : Ar} {top1 n : Nd} {i y : Nat} (c : Cutted A B top top1 i n y) (hD : Drops B C (post B i n) n.order) : Abs C top1 := by
  obtain ⟨od1, od2, od3⟩ := c.od h
  obtain ⟨pd1, pd2, pd3⟩ := c.pd h
  rw [c.pn] at hD
  have hout : ∀ j ∈ post B 0 top1, C.cells[j]? = B.cells[j]? := fun j hj => hD.d.out j (pd3 j hj)
  obtain ⟨htC, hpC⟩ := Tr.keep (A' := C) top1 _ 0 c.tr hout
  have hlen : C.cells.length = A.cells.length := hD.d.len.trans c.len
  have hfree : C.free = A.free ++ (post A i n).map (fun (n : Nat) => (n : Int)) := by rw [hD.d.free, c.free]
  have hfm : C.free.map Int.toNat = A.free.map Int.toNat ++ post A i n := by
    rw [hfree, List.map_append, List.map_map]
    congr 1
    exact (List.map_congr_left (g := _root_.id) (fun x _ => by simp)).trans (List.map_id _)
  have hsz := c.size
  have hmem : ∀ j ∈ post B 0 top1, j ∈ post A 0 top := fun j hj => c.perm.mem_iff.1 (List.mem_append.2 (.inl hj))
  have hmemn : ∀ j ∈ post A i n, j ∈ post A 0 top := fun j hj => c.perm.mem_iff.1 (List.mem_append.2 (.inr hj))
  have hAlen : (post A i n).length = n.size := by rw [← c.pn]; exact c.trn.len
  refine Abs.of htC od1 ?_ ?_ ?_ (by rw [hlen]; exact h.cap) ?_ ?_ ?_ (c.id0.trans h.id0) (c.g0.trans h.g0) ?_ ?_
  · rw [hpC, hfm]
    have e : (post B 0 top1 ++ (A.free.map Int.toNat ++ post A i n)).Perm (post A 0 top ++ A.free.map Int.toNat) := by
      refine List.Perm.trans ?_ (c.perm.append_right _)
      rw [List.append_assoc]
      exact List.Perm.append_left _ List.perm_append_comm
    exact e.nodup_iff.2 h.nd
  · rw [hlen, hfree]
    intro x hx
    rcases List.mem_append.1 hx with hx | hx
    · exact h.frb x hx
    · obtain ⟨m, hm, rfl⟩ := List.mem_map.1 hx
      exact ⟨m, rfl, h.tr.lt m (hmemn m hm)⟩
  · rw [hlen, hfree, List.length_append, List.length_map, hAlen]
    have := h.len
    omega
  · rw [hpC]
    intro j hj
    have e1 : C.idAt j = A.idAt j := (Ar.idAt_congr (hout j hj)).trans (c.idAt j)
    have hm : A.idAt j ∈ top1.order := by rw [← c.idAt j]; exact c.tr.mem hj
    rw [e1, hD.at_, if_neg (od3 _ hm), c.at_]
    exact h.at_ j (hmem j hj)
  · intro x hx
    rw [hD.at_, c.at_]
    by_cases hxn : x ∈ n.order
    · rw [if_pos hxn]
    · rw [if_neg hxn]
      refine h.atn x fun hm => ?_
      rcases List.mem_append.1 (c.order.mem_iff.2 hm) with e | e
      · exact hx e
      · exact hxn e
  · have := hD.cnt
    rw [Nd.order_len, c.cnt, h.cnt] at this
    omega
  · exact fun x hx => h.i64 x (c.order.mem_iff.1 (List.mem_append.2 (.inl hx)))
  · rw [hpC]
    intro j cc hj hn
    by_cases hjn : j ∈ post A i n
    · have hl := h.tr.lt j (hmemn j hjn)
      rw [hD.d.inn j hjn (by rw [c.len]; exact hl)] at hj
      injection hj with hj
      subst hj
      exact CelOk.zero
    · rw [hD.d.out j hjn, c.out j (fun e => hn (e ▸ c.y1))] at hj
      exact h.cel hj
end
end Go.Tr

/-
  Tree, the program's: Remove.
-/

namespace Go.Proofs.YtggcpoleklcmkaaGreatDoor
open Go.Sl Go.Ls Go.Tr
set_option maxRecDepth 100000
set_option maxHeartbeats 4000000
set_option linter.unusedVariables false
set_option linter.unusedSimpArgs false
attribute [local irreducible] WC WL WX WK WA WAK Val Ctr RunRes ResIs Rd At sl box pt Exit.then Exit.inBlock bodyPost Code.wp wpList
end Go.Proofs.YtggcpoleklcmkaaGreatDoor

/-
  Tree, the plain law (6): what is moved.
-/

namespace Go.Tr
open Go.Sl Go.Ls
set_option linter.unusedVariables false
set_option linter.unusedSimpArgs false
/-- Another parent. -/
def Ar.setPar (A : Ar) (q : Nat) (p : Int) : Ar := { A with cells := A.cells.modify q fun c => { c with par := p } }
theorem setPar_get (A : Ar) (q : Nat) (p : Int) (j : Nat) : (A.setPar q p).cells[j]? = if q = j then (A.cells[j]?).map (fun c => { c with par := p }) else A.cells[j]? := by
  rw [Ar.setPar, List.getElem?_modify]
  by_cases h : q = j
  · rw [if_pos h]; simp [h]
  · rw [if_neg h]; simp [h]
theorem setPar_len (A : Ar) (q : Nat) (p : Int) : (A.setPar q p).cells.length = A.cells.length := by simp [Ar.setPar]
theorem Ar.setPar_hp (A : Ar) (q : Nat) (p : Int) (hq : q < A.cells.length) : (A.setPar q p).hp = [box A.b 145 [A.cv, A.fv, .map (some A.mb)], sl 191 4 A.cv A.cells.length (splice A.flat (0 + (q : Int).toNat * 4 + 2) [vi p]), sl 3 1 A.fv A.free.length (A.free.map vi), mp A.mb A.look A.cnt, sts (A.cells.map Cel.row)] := by
  have h1 : (A.setPar q p).flat = splice A.flat (0 + (q : Int).toNat * 4 + 2) [vi p] := by
    rw [Nat.zero_add, Int.toNat_natCast, Ar.flat, Ar.flat, flat_splice (by decide) _ A.flat_len q 2 [vi p] (by simpa using hq) (by simp)]
    congr 1
    rw [Ar.setPar]
    simp only [modify_set hq, List.map_set, List.getElem_map]
    rfl
  have h2 : (A.setPar q p).cells.map Cel.row = A.cells.map Cel.row := by
    rw [Ar.setPar]
    simp only [modify_set hq, List.map_set]
    apply List.ext_getElem?
    intro j
    rw [List.getElem?_set]
    by_cases hj : q = j
    · subst hj
      simp [hq]; rfl
    · rw [if_neg hj]
  have h3 := setPar_len A q p
  simp only [Ar.hp, Ar.cv, h1, h2, h3]
  rfl
/-- A node as it was, but its parent. -/
theorem Tr.repar {A C : Ar} {p p' : Int} {q : Nat} {n : Nd} (h : Tr A p q n) (hn : (post A q n).Nodup) (hq : C.cells[q]? = (A.cells[q]?).map (fun c => { c with par := p' })) (ho : ∀ j ∈ post A q n, j ≠ q → C.cells[j]? = A.cells[j]?) : Tr C p' q n ∧ post C q n = post A q n := by
  obtain ⟨hi, h1, h2, h3, h4⟩ := h.ex
  obtain ⟨_, e⟩ := post_eq h
  rw [e] at hn ho
  have hi' : q < C.cells.length := by
    rcases Nat.lt_or_ge q C.cells.length with g | g
    · exact g
    · rw [List.getElem?_eq_none g, List.getElem?_eq_getElem hi] at hq; cases hq
  have he : C.cells[q] = { A.cells[q] with par := p' } := by
    rw [List.getElem?_eq_getElem hi', List.getElem?_eq_getElem hi] at hq; injection hq
  obtain ⟨k1, k2⟩ := Trs.keep (A' := C) _ _ h4 (fun j hj => ho j (List.mem_append.2 (.inl hj)) (fun e => dis_of_nodup hn hj (by rw [e]; exact List.mem_singleton.2 rfl)))
  have ht : Tr C p' q n := Tr.mk hi' (by rw [he]; exact h1) (by rw [he]; exact h2) (by rw [he]) (by rw [he]; exact k1)
  refine ⟨ht, ?_⟩
  rw [(post_eq ht).2, e, he, k2]
/-- Pars as they were: the way up as it was. -/
theorem Ch.keep {A C : Ar} {i : Nat} {l : List Nat} (h : Ch A i l) (hl : C.cells.length = A.cells.length) (hp : ∀ j (h1 : j < A.cells.length) (h2 : j < C.cells.length), (C.cells[j]).par = (A.cells[j]).par) : Ch C i l := by
  induction h with
  | top hi h => exact Ch.top (by rw [hl]; exact hi) (by rw [hp _ hi]; exact h)
  | up hi h _ ih => exact Ch.up (by rw [hl]; exact hi) (by rw [hp _ hi]; exact h) ih
section
variable {A : Ar} {top : Nd}
end
end Go.Tr

/-
  Tree, the program's: Move.
-/

namespace Go.Tr
open Go.Sl Go.Ls
set_option linter.unusedVariables false
set_option linter.unusedSimpArgs false
section
variable {A : Ar} {top : Nd}
/-- Does a node hold an ID? -/
theorem Tr.has {p : Int} {i q : Nat} {n : Nd} (h : Abs A top) (ht : Tr A p i n) (hin : ∀ j ∈ post A i n, j ∈ post A 0 top) (hq : q ∈ post A 0 top) : (Nd.find (A.idAt q) n).isSome = true ↔ q ∈ post A i n := by
  rw [Nd.find_some]
  constructor
  · intro hm
    obtain ⟨j, hj, e⟩ := ht.of_mem hm
    rw [← h.tr.inj h.od (hin j hj) hq e]
    exact hj
  · exact fun hm => ht.mem hm
end
end Go.Tr
namespace Go.Proofs.YtggcpoleklcmkaaGreatDoor
open Go.Sl Go.Ls Go.Tr
set_option maxRecDepth 100000
set_option maxHeartbeats 4000000
set_option linter.unusedVariables false
set_option linter.unusedSimpArgs false
attribute [local irreducible] WC WL WX WK WA WAK Val Ctr RunRes ResIs Rd At sl box pt Exit.then Exit.inBlock bodyPost Code.wp wpList
end Go.Proofs.YtggcpoleklcmkaaGreatDoor

/-
  Tree, the plain law (7): what is wrapped, and unwrapped.
-/

namespace Go.Tr
open Go.Sl Go.Ls
set_option linter.unusedVariables false
set_option linter.unusedSimpArgs false
/-- Nodes as they were, but their parent. -/
theorem Trs.repar {A C : Ar} {p p' : Int} : ∀ {l : List Int} {ns : List Nd}, Trs A p l ns → (posts A l ns).Nodup → (∀ x : Nat, (x : Int) ∈ l → C.cells[x]? = (A.cells[x]?).map (fun c => { c with par := p' })) → (∀ j ∈ posts A l ns, (j : Int) ∉ l → C.cells[j]? = A.cells[j]?) → Trs C p' l ns ∧ posts C l ns = posts A l ns
  | [], [], _, _, _, _ => ⟨Trs.nil _ _, by simp [posts]⟩
  | k :: l, n :: ns, h, hn, hp, ho => by
    rw [Trs] at h
    obtain ⟨⟨q, rfl, t1⟩, t2⟩ := h
    rw [posts_cons] at hn ho
    obtain ⟨n1, n2, n3⟩ := List.nodup_append.1 hn
    have hql : (q : Int) ∉ l := fun hm => n3 q (self_post A q n) q (mem_l t2 hm) rfl
    obtain ⟨a1, a2⟩ := Tr.repar (C := C) (p' := p') t1 n1 (hp q (List.mem_cons_self)) (fun j hj hne => ho j (List.mem_append.2 (.inl hj)) (fun hm => by
      rcases List.mem_cons.1 hm with e | hm
      · exact hne (by omega)
      · exact n3 j hj j (mem_l t2 hm) rfl))
    obtain ⟨b1, b2⟩ := Trs.repar (C := C) (p' := p') t2 n2 (fun x hx => hp x (List.mem_cons_of_mem _ hx)) (fun j hj hne => ho j (List.mem_append.2 (.inr hj)) (fun hm => by
      rcases List.mem_cons.1 hm with e | hm
      · have : j = q := by omega
        subst this
        exact n3 j (self_post A j n) j hj rfl
      · exact hne hm))
    exact ⟨Trs.cons a1 b1, by rw [posts_cons, posts_cons, a2, b2]⟩
  | [], _ :: _, h, _, _, _ => by rw [Trs] at h; exact h.elim
  | _ :: _, [], h, _, _, _ => by rw [Trs] at h; exact h.elim
theorem split3 {A : Ar} {p : Int} {l : List Int} {ns : List Nd} (h : Trs A p l ns) (a c : Nat) : Trs A p (l.take a) (ns.take a) ∧ Trs A p ((l.drop a).take c) ((ns.drop a).take c) ∧ Trs A p (l.drop (a + c)) (ns.drop (a + c)) ∧ posts A l ns = posts A (l.take a) (ns.take a) ++ (posts A ((l.drop a).take c) ((ns.drop a).take c) ++ posts A (l.drop (a + c)) (ns.drop (a + c))) := by
  obtain ⟨s1, s2, s3⟩ := Trs.split a h
  obtain ⟨r1, r2, r3⟩ := Trs.split c s2
  rw [List.drop_drop, List.drop_drop] at r2 r3
  exact ⟨s1, r1, r2, by rw [s3, r3]⟩
theorem orders3 (ns : List Nd) (a c : Nat) : Nd.orders ns = Nd.orders (ns.take a) ++ (Nd.orders ((ns.drop a).take c) ++ Nd.orders (ns.drop (a + c))) := by
  rw [← Nd.orders_app, ← Nd.orders_app, ← List.drop_drop, List.take_append_drop, List.take_append_drop]
section
variable {A : Ar} {top : Nd}
/-- Some kids are wrapped. -/
theorem Abs.wrap (h : Abs A top) {q : Nat} {qp : Int} {np : Nd} {R : List Nat} {RO : List Int} (f : Foc A (-1) 0 top q qp np R RO) {id : Int} (hx : id ∉ top.order ∧ I64 id) (hsz : top.size + 1 ≤ 65537)
    {B C : Ar} {i a c : Nat} (hL : Laid A B (q : Int) i (.mk id true [])) (hqA : q < A.cells.length) (kv kv' : Value)
    (hlen : C.cells.length = B.cells.length) (hfree : C.free = B.free) (hat : C.at_ = B.at_) (hcnt : C.cnt = B.cnt)
    (hCi : C.cells[i]? = (B.cells[i]?).map (fun x => { x with kids := ((A.cells[q]).kids.drop a).take c, kv := kv }))
    (hCk : ∀ x : Nat, (x : Int) ∈ ((A.cells[q]).kids.drop a).take c → C.cells[x]? = (A.cells[x]?).map (fun x => { x with par := (i : Int) }))
    (hCp : C.cells[q]? = some { A.cells[q] with kids := (A.cells[q]).kids.take a ++ [(i : Int)] ++ (A.cells[q]).kids.drop (a + c), kv := kv' })
    (hCo : ∀ j : Nat, j ≠ i → j ≠ q → (j : Int) ∉ ((A.cells[q]).kids.drop a).take c → C.cells[j]? = B.cells[j]?) :
    Abs C (Nd.with_ np.id (np.kids.take a ++ (.mk id true ((np.kids.drop a).take c) :: np.kids.drop (a + c))) top) := by
  have hpn := h.pnd
  obtain ⟨_, hpq, hps, hqp⟩ := f.posts_dis hpn
  have hlay := h.layOk (n := .mk id true []) (by simp [Nd.order, Nd.orders]) (fun x hm => by
    simp only [Nd.order, Nd.orders, List.mem_singleton] at hm; rw [hm]; exact hx.1) (by simp [Nd.size, Nd.sizes])
  have hnB := hL.nodup hlay.frb hlay.fnd
  obtain ⟨hiB, b1, b2, b3, b4⟩ := hL.tr.ex
  have hkB : (B.cells[i]).kids = [] := by
    have := b4.len
    exact List.eq_nil_of_length_eq_zero this
  have hpi : post B i (.mk id true []) = [i] := by
    rw [(post_eq hL.tr).2, hkB]; rfl
  have hold : ∀ j ∈ post A 0 top, j ≠ i := fun j hj e => by
    have hm : i ∈ post B i (.mk id true []) := self_post B i _
    rcases mem_news.1 (hL.perm.mem_iff.1 (List.mem_append.2 (.inl hm))) with hf | hr
    · exact dis_of_nodup h.nd (e ▸ hj) hf
    · have := h.tr.lt j hj; omega
  have hBA : ∀ j ∈ post A 0 top, B.cells[j]? = A.cells[j]? := fun j hj => hL.out j (h.tr.lt j hj) (by rw [hpi, List.mem_singleton]; exact hold j hj)
  have hqm : q ∈ post A 0 top := f.mem (self_post A q np)
  obtain ⟨_, hid, hgr, hpar, hks⟩ := f.tr.ex
  obtain ⟨s1, s2, s3, s4⟩ := split3 hks a c
  have hin : ∀ j ∈ posts A (A.cells[q]).kids np.kids, j ∈ post A 0 top := fun j hj => f.mem (by rw [hpq]; exact List.mem_append.2 (.inl hj))
  have hne : ∀ j ∈ posts A (A.cells[q]).kids np.kids, j ≠ q := fun j hj e => hqp (e ▸ hj)
  have hps' := hps
  rw [s4] at hps'
  obtain ⟨n1, n23, n1d⟩ := List.nodup_append.1 hps'
  obtain ⟨n2, n3, n2d⟩ := List.nodup_append.1 n23
  -- places that are not in the segment's roots
  have hroot : ∀ j : Nat, (j : Int) ∈ ((A.cells[q]).kids.drop a).take c → j ∈ posts A (((A.cells[q]).kids.drop a).take c) ((np.kids.drop a).take c) := fun j hj => mem_l s2 hj
  have hsame : ∀ j ∈ post A 0 top, j ≠ q → (j : Int) ∉ ((A.cells[q]).kids.drop a).take c → C.cells[j]? = A.cells[j]? := fun j hj hne hno => (hCo j (hold j hj) hne hno).trans (hBA j hj)
  have m1 : ∀ j ∈ posts A ((A.cells[q]).kids.take a) (np.kids.take a), j ∈ posts A (A.cells[q]).kids np.kids := fun j hj => by rw [s4]; exact List.mem_append.2 (.inl hj)
  have m2 : ∀ j ∈ posts A (((A.cells[q]).kids.drop a).take c) ((np.kids.drop a).take c), j ∈ posts A (A.cells[q]).kids np.kids := fun j hj => by rw [s4]; exact List.mem_append.2 (.inr (List.mem_append.2 (.inl hj)))
  have m3 : ∀ j ∈ posts A ((A.cells[q]).kids.drop (a + c)) (np.kids.drop (a + c)), j ∈ posts A (A.cells[q]).kids np.kids := fun j hj => by rw [s4]; exact List.mem_append.2 (.inr (List.mem_append.2 (.inr hj)))
  obtain ⟨t1, u1⟩ := Trs.keep (A' := C) _ _ s1 (fun j hj => hsame j (hin j (m1 j hj)) (hne j (m1 j hj)) (fun hm => n1d j hj j (List.mem_append.2 (.inl (hroot j hm))) rfl))
  obtain ⟨t3, u3⟩ := Trs.keep (A' := C) _ _ s3 (fun j hj => hsame j (hin j (m3 j hj)) (hne j (m3 j hj)) (fun hm => n2d j (hroot j hm) j hj rfl))
  obtain ⟨t2, u2⟩ := Trs.repar (C := C) (p' := (i : Int)) s2 n2 hCk (fun j hj hno => hsame j (hin j (m2 j hj)) (hne j (m2 j hj)) hno)
  have hiC : i < C.cells.length := by rw [hlen]; exact hiB
  have eCi : C.cells[i] = { B.cells[i] with kids := ((A.cells[q]).kids.drop a).take c, kv := kv } := by
    rw [List.getElem?_eq_getElem hiC, List.getElem?_eq_getElem hiB] at hCi; injection hCi
  have hqC : q < C.cells.length := by
    rw [hlen]; exact Nat.lt_of_lt_of_le hqA hL.le
  have eCq : C.cells[q] = { A.cells[q] with kids := (A.cells[q]).kids.take a ++ [(i : Int)] ++ (A.cells[q]).kids.drop (a + c), kv := kv' } := by
    rw [List.getElem?_eq_getElem hqC] at hCp; injection hCp
  have hti : Tr C (q : Int) i (.mk id true ((np.kids.drop a).take c)) := Tr.mk hiC (by rw [eCi]; exact b1) (by rw [eCi]; exact b2) (by rw [eCi]; exact b3) (by rw [eCi]; exact t2)
  have hpi' : post C i (.mk id true ((np.kids.drop a).take c)) = posts A (((A.cells[q]).kids.drop a).take c) ((np.kids.drop a).take c) ++ [i] := by
    rw [(post_eq hti).2, eCi]
    show posts C (((A.cells[q]).kids.drop a).take c) ((np.kids.drop a).take c) ++ [i] = _
    rw [u2]
  have htq : Tr C qp q (.mk np.id np.grp (np.kids.take a ++ (.mk id true ((np.kids.drop a).take c) :: np.kids.drop (a + c)))) := by
    refine Tr.mk hqC (by rw [eCq]; exact hid) (by rw [eCq]; exact hgr) (by rw [eCq]; exact hpar) ?_
    rw [eCq]
    show Trs C (q : Int) ((A.cells[q]).kids.take a ++ [(i : Int)] ++ (A.cells[q]).kids.drop (a + c)) (np.kids.take a ++ (.mk id true ((np.kids.drop a).take c) :: np.kids.drop (a + c)))
    rw [List.append_assoc]
    exact t1.app (Trs.cons hti t3)
  have hpq' : post C q (.mk np.id np.grp (np.kids.take a ++ (.mk id true ((np.kids.drop a).take c) :: np.kids.drop (a + c)))) = posts A ((A.cells[q]).kids.take a) (np.kids.take a) ++ (posts A (((A.cells[q]).kids.drop a).take c) ((np.kids.drop a).take c) ++ [i] ++ posts A ((A.cells[q]).kids.drop (a + c)) (np.kids.drop (a + c))) ++ [q] := by
    rw [(post_eq htq).2, eCq]
    show posts C ((A.cells[q]).kids.take a ++ [(i : Int)] ++ (A.cells[q]).kids.drop (a + c)) (np.kids.take a ++ (.mk id true ((np.kids.drop a).take c) :: np.kids.drop (a + c))) ++ [q] = _
    rw [List.append_assoc, posts_app C _ _ s1.len, u1]
    show _ ++ posts C ((i : Int) :: (A.cells[q]).kids.drop (a + c)) (.mk id true ((np.kids.drop a).take c) :: np.kids.drop (a + c)) ++ [q] = _
    rw [posts_cons, hpi', u3]
  obtain ⟨htr0, hperm0⟩ := f.with_ C (.mk np.id np.grp (np.kids.take a ++ (.mk id true ((np.kids.drop a).take c) :: np.kids.drop (a + c)))) rfl rfl htq (fun j hj => hsame j (f.memR hj) (fun e => f.notR hpn (e ▸ hj)) (fun hm => f.dis hpn (by rw [hpq]; exact List.mem_append.2 (.inl (m2 j (hroot j hm)))) hj))
  have htr : Tr C (-1) 0 (Nd.with_ np.id (np.kids.take a ++ (.mk id true ((np.kids.drop a).take c) :: np.kids.drop (a + c))) top) := htr0
  have hperm : (post C 0 (Nd.with_ np.id (np.kids.take a ++ (.mk id true ((np.kids.drop a).take c) :: np.kids.drop (a + c))) top)).Perm (post C q (.mk np.id np.grp (np.kids.take a ++ (.mk id true ((np.kids.drop a).take c) :: np.kids.drop (a + c)))) ++ R) := hperm0
  have hord : (Nd.with_ np.id (np.kids.take a ++ (.mk id true ((np.kids.drop a).take c) :: np.kids.drop (a + c))) top).order.Perm ((Nd.mk np.id np.grp (np.kids.take a ++ (.mk id true ((np.kids.drop a).take c) :: np.kids.drop (a + c)))).order ++ RO) := f.order' (.mk np.id np.grp (np.kids.take a ++ (.mk id true ((np.kids.drop a).take c) :: np.kids.drop (a + c)))) rfl rfl
  have hwid := with_id np.id (np.kids.take a ++ (.mk id true ((np.kids.drop a).take c) :: np.kids.drop (a + c))) top
  generalize Nd.with_ np.id (np.kids.take a ++ (.mk id true ((np.kids.drop a).take c) :: np.kids.drop (a + c))) top = top2 at *
  have hP : (post C 0 top2).Perm (post A 0 top ++ [i]) := by
    refine hperm.trans ?_
    rw [hpq']
    have e1 : (posts A ((A.cells[q]).kids.take a) (np.kids.take a) ++ (posts A (((A.cells[q]).kids.drop a).take c) ((np.kids.drop a).take c) ++ [i] ++ posts A ((A.cells[q]).kids.drop (a + c)) (np.kids.drop (a + c))) ++ [q]).Perm (post A q np ++ [i]) := by
      rw [hpq, s4]
      simp only [List.append_assoc]
      refine List.Perm.append_left _ (List.Perm.append_left _ ?_)
      refine (List.perm_append_comm (l₁ := [i]) (l₂ := posts A ((A.cells[q]).kids.drop (a + c)) (np.kids.drop (a + c)) ++ [q])).trans ?_
      rw [List.append_assoc]
    refine (e1.append_right _).trans ((perm_mid _ _ _).trans ?_)
    exact f.perm.symm.append_right _
  have hO : top2.order.Perm (top.order ++ [id]) := by
    refine hord.trans ?_
    have e1 : (Nd.mk np.id np.grp (np.kids.take a ++ (.mk id true ((np.kids.drop a).take c) :: np.kids.drop (a + c)))).order.Perm (np.order ++ [id]) := by
      rw [Nd.order, Nd.orders_app, Nd.orders, Nd.order_eq np, orders3 np.kids a c, List.cons_append]
      refine List.Perm.cons _ ?_
      rw [List.append_assoc]
      refine List.Perm.append_left _ ?_
      show ((Nd.mk id true ((np.kids.drop a).take c)).order ++ Nd.orders (np.kids.drop (a + c))).Perm _
      rw [Nd.order, List.cons_append]
      exact List.perm_append_comm (l₁ := [id])
    refine (e1.append_right _).trans ((perm_mid _ _ _).trans ?_)
    exact f.order.symm.append_right _
  have hS : top2.size = top.size + 1 := by
    have := hO.length_eq
    rwa [List.length_append, Nd.order_len, Nd.order_len, List.length_singleton] at this
  have hsl := hL.size_le
  have hs1 : (Nd.mk id true []).size = 1 := by simp [Nd.size, Nd.sizes]
  rw [hs1] at hsl
  have hperm2 := hL.perm
  rw [hpi] at hperm2
  have hCid : ∀ j ∈ post A 0 top, C.idAt j = A.idAt j := fun j hj => by
    by_cases hjq : j = q
    · subst hjq
      rw [Ar.idAt, Ar.idAt, hCp, List.getElem?_eq_getElem hqA]; rfl
    · by_cases hjs : (j : Int) ∈ ((A.cells[q]).kids.drop a).take c
      · rw [Ar.idAt, Ar.idAt, hCk j hjs]
        cases A.cells[j]? <;> rfl
      · exact Ar.idAt_congr (hsame j hj hjq hjs)
  have hCii : C.idAt i = id := by rw [Ar.idAt_eq hiC, eCi]; exact b1
  have hBii : B.idAt i = id := by rw [Ar.idAt_eq hiB]; exact b1
  refine Abs.of htr ?_ ?_ ?_ ?_ ?_ ?_ ?_ ?_ (hwid.1.trans h.id0) (hwid.2.trans h.g0) ?_ ?_
  · rw [hO.nodup_iff, List.nodup_append]
    exact ⟨h.od, by simp, fun x hm y hy e => hx.1 (by rw [List.mem_singleton] at hy; rw [← hy, ← e]; exact hm)⟩
  · rw [hfree]
    have e2 : (post C 0 top2 ++ B.free.map Int.toNat).Perm (post A 0 top ++ news A B) := by
      refine (hP.append_right _).trans ?_
      rw [List.append_assoc]
      exact hperm2.append_left _
    rw [e2.nodup_iff, List.nodup_append]
    refine ⟨hpn, news_nodup hlay.frb hlay.fnd, fun x hm y hy e => ?_⟩
    subst e
    rcases mem_news.1 hy with hf | hr
    · exact dis_of_nodup h.nd hm hf
    · have := h.tr.lt x hm; omega
  · rw [hfree, hlen]
    intro x hm
    obtain ⟨m, e, hm⟩ := h.frb x (hL.frs x hm)
    exact ⟨m, e, Nat.lt_of_lt_of_le hm hL.le⟩
  · rw [hlen, hfree, hS]
    have := h.len
    omega
  · rw [hlen]
    have h2 := h.len
    have h3 := h.cap
    rcases hL.grow with hg | hg
    · omega
    · rw [hg] at hsl
      simp only [List.length_nil] at hsl
      omega
  · intro j hj
    rw [hat]
    rcases List.mem_append.1 (hP.mem_iff.1 hj) with hj | hj
    · rw [hCid j hj, hL.atn, h.at_ j hj]
      intro hm
      simp only [Nd.order, Nd.orders, List.mem_singleton] at hm
      exact hx.1 (by rw [← hm]; exact h.tr.mem hj)
    · rw [List.mem_singleton] at hj
      subst hj
      rw [hCii]
      have := hL.at_ j (self_post B j _)
      rwa [hBii] at this
  · intro x hm
    have hm2 := fun e => hm (hO.mem_iff.2 e)
    rw [hat, hL.atn x (fun e => by
      simp only [Nd.order, Nd.orders, List.mem_singleton] at e
      exact hm2 (List.mem_append.2 (.inr (by rw [e]; exact List.mem_singleton.2 rfl)))), h.atn x (fun e => hm2 (List.mem_append.2 (.inl e)))]
  · rw [hcnt, hL.cnt, h.cnt, hS, hs1]
  · intro x hm
    rcases List.mem_append.1 (hO.mem_iff.1 hm) with hm | hm
    · exact h.i64 x hm
    · rw [List.mem_singleton] at hm
      rw [hm]; exact hx.2
  · intro j cc hj hn
    have hn2 := fun e => hn (hP.mem_iff.2 e)
    have hji : j ≠ i := fun e => hn2 (List.mem_append.2 (.inr (by rw [e]; exact List.mem_singleton.2 rfl)))
    have hjA : j ∉ post A 0 top := fun e => hn2 (List.mem_append.2 (.inl e))
    have hjq : j ≠ q := fun e => hjA (e ▸ hqm)
    rw [hCo j hji hjq (fun hm => hjA (hin j (m2 j (hroot j hm))))] at hj
    by_cases hjl : j < A.cells.length
    · rw [hL.out j hjl (by rw [hpi, List.mem_singleton]; exact hji)] at hj
      exact h.cel hj
    · exfalso
      have hjl2 : j < B.cells.length := by
        rcases Nat.lt_or_ge j B.cells.length with h | h
        · exact h
        · rw [List.getElem?_eq_none h] at hj; cases hj
      have : j ∈ news A B := mem_news.2 (.inr ⟨by omega, by have := hL.le; omega⟩)
      rcases List.mem_append.1 (hperm2.mem_iff.2 this) with e | e
      · exact hji (List.mem_singleton.1 e)
      · obtain ⟨x, hxm, rfl⟩ := List.mem_map.1 e
        obtain ⟨m, e2, hm⟩ := h.frb x (hL.frs x hxm)
        rw [e2] at hjl
        simp at hjl
        omega
end
end Go.Tr

/-
  Tree: what stands between Wrap's walk and its law; slices.Clone of a part.
-/

namespace Go.Sl
open Go.Ls
theorem Val.sliceMidO {Γ : Cx} {ρ : Nat → Value} {I : Mem} {L : List HP} {ty : TypeId} {t e n len cap l h : Nat} {a : Option Addr} {x lo hi : Operand} [hk : SlK Γ.P t e n] (hx : ev ρ x = .slice a len cap) (hl : ev ρ lo = .int .i64 (l : Int)) (hh : ev ρ hi = .int .i64 (h : Int)) (h1 : l ≤ h) (h2 : h ≤ cap) :
    Val Γ ρ I L (.slice t x (some lo) (some hi) none) ty (.slice (if cap = l then a else a.map (·.add (l * n))) (h - l) (cap - l)) :=
  Val.slice (l := l) (h := h) hx (.some (e := (l : Int)) hl (Int.natCast_nonneg l)) (.some (e := (h : Int)) hh (Int.natCast_nonneg h)) h1 h2
theorem WL.rowOpen3 {Γ : Cx} {ops : Array Oper} {rest : List Oper} {ρ : Nat → Value} {I : Mem} {L : List HP} {Q : Post} {e sz n : Nat} {v : Value} {M : List HP} {xs : List Value} (k i : Nat) (hL : L[k]? = some (sts M)) (hM : M[i]? = some (sl e sz v n xs)) (next : ∀ aa cap, v = .slice aa n cap → (0 < n → ∃ g, aa = some ⟨g, 0, none⟩) → n ≤ cap → WL Γ ops rest ρ I L Q) : WL Γ ops rest ρ I L Q := fun a w ha hw => by
  have h1 := hw.rowOut k i hL hM
  obtain ⟨m, hm, _, h2⟩ := h1.head
  rcases h2 with ⟨rfl, rfl⟩ | ⟨g, cap, cur, hv, _, h3, _⟩
  · exact next _ _ rfl (fun h => by omega) (Nat.le_refl _) a w ha hw
  · exact next _ _ hv (fun _ => ⟨g, rfl⟩) h3 a w ha hw
end Go.Sl
namespace Go.Tr
open Go.Sl Go.Ls
set_option linter.unusedVariables false
set_option linter.unusedSimpArgs false
/-- Another parent of some. -/
def Ar.setPars (A : Ar) (l : List Int) (p : Int) : Ar := l.foldl (fun A k => A.setPar k.toNat p) A
theorem setPars_snoc (A : Ar) (l : List Int) (k p : Int) : A.setPars (l ++ [k]) p = (A.setPars l p).setPar k.toNat p := by rw [Ar.setPars, List.foldl_append]; rfl
theorem setPars_same : ∀ (l : List Int) (A : Ar) (p : Int), (A.setPars l p).b = A.b ∧ (A.setPars l p).mb = A.mb ∧ (A.setPars l p).free = A.free ∧ (A.setPars l p).at_ = A.at_ ∧ (A.setPars l p).cnt = A.cnt ∧ (A.setPars l p).cells.length = A.cells.length
  | [], _, _ => ⟨rfl, rfl, rfl, rfl, rfl, rfl⟩
  | k :: l, A, p => by
    obtain ⟨a, b, c, d, e, f⟩ := setPars_same l (A.setPar k.toNat p) p
    exact ⟨a, b, c, d, e, f.trans (setPar_len _ _ _)⟩
theorem setPars_get : ∀ (l : List Int) (hl : ∀ x ∈ l, ∃ q : Nat, x = (q : Int)) (A : Ar) (p : Int) (j : Nat), (A.setPars l p).cells[j]? = if (j : Int) ∈ l then (A.cells[j]?).map (fun c => { c with par := p }) else A.cells[j]?
  | [], _, A, p, j => by simp [Ar.setPars]
  | k :: l, hl, A, p, j => by
    obtain ⟨q, rfl⟩ := hl k (List.mem_cons_self)
    have ih := setPars_get l (fun x hx => hl x (List.mem_cons_of_mem _ hx)) (A.setPar q p) p j
    have e : A.setPars ((q : Int) :: l) p = (A.setPar q p).setPars l p := by rw [Ar.setPars, List.foldl_cons, Int.toNat_natCast]; rfl
    rw [e, ih, setPar_get]
    by_cases h1 : q = j
    · subst h1
      simp only [if_true, List.mem_cons, true_or]
      by_cases h2 : (q : Int) ∈ l
      · rw [if_pos h2]
        cases A.cells[q]? <;> rfl
      · rw [if_neg h2]
    · have h3 : ¬ (j : Int) = (q : Int) := by omega
      simp only [h1, if_false, List.mem_cons, h3, false_or]
section
variable {A : Ar} {top : Nd}
theorem Abs.wrap2 (h : Abs A top) {q : Nat} {qp : Int} {np : Nd} {R : List Nat} {RO : List Int} (f : Foc A (-1) 0 top q qp np R RO) {id : Int} (hx : id ∉ top.order ∧ I64 id) (hsz : top.size + 1 ≤ 65537)
    {B : Ar} {i : Nat} (a c : Nat) (hL : Laid A B (q : Int) i (.mk id true [])) (hqA : q < A.cells.length) (kv kv' : Value) :
    i < B.cells.length ∧ q ≠ i ∧ (∀ x ∈ (A.cells[q]).kids, ∃ y : Nat, x = (y : Int) ∧ y < A.cells.length ∧ y ≠ i ∧ y ≠ q) ∧ B.cells[q]? = A.cells[q]? ∧
    Abs (((B.setKids i (((A.cells[q]).kids.drop a).take c) kv).setPars (((A.cells[q]).kids.drop a).take c) (i : Int)).setKids q ((A.cells[q]).kids.take a ++ [(i : Int)] ++ (A.cells[q]).kids.drop (a + c)) kv') (Nd.with_ np.id (np.kids.take a ++ (.mk id true ((np.kids.drop a).take c) :: np.kids.drop (a + c))) top) := by
  have hpn := h.pnd
  obtain ⟨_, hpq, hps, hqp⟩ := f.posts_dis hpn
  have hlay := h.layOk (n := .mk id true []) (by simp [Nd.order, Nd.orders]) (fun x hm => by
    simp only [Nd.order, Nd.orders, List.mem_singleton] at hm; rw [hm]; exact hx.1) (by simp [Nd.size, Nd.sizes])
  obtain ⟨hiB, _, _, _, b4⟩ := hL.tr.ex
  have hkB : (B.cells[i]).kids = [] := List.eq_nil_of_length_eq_zero b4.len
  have hpi : post B i (.mk id true []) = [i] := by rw [(post_eq hL.tr).2, hkB]; rfl
  have hold : ∀ j ∈ post A 0 top, j ≠ i := fun j hj e => by
    have hm : i ∈ post B i (.mk id true []) := self_post B i _
    rcases mem_news.1 (hL.perm.mem_iff.1 (List.mem_append.2 (.inl hm))) with hf | hr
    · exact dis_of_nodup h.nd (e ▸ hj) hf
    · have := h.tr.lt j hj; omega
  have hBA : ∀ j ∈ post A 0 top, B.cells[j]? = A.cells[j]? := fun j hj => hL.out j (h.tr.lt j hj) (by rw [hpi, List.mem_singleton]; exact hold j hj)
  have hqm : q ∈ post A 0 top := f.mem (self_post A q np)
  obtain ⟨_, _, _, _, hks⟩ := f.tr.ex
  have hkid : ∀ x ∈ (A.cells[q]).kids, ∃ y : Nat, x = (y : Int) ∧ y ∈ post A 0 top ∧ y ≠ q := fun x hxm => by
    obtain ⟨y, e, hy, _⟩ := h.tr.kid_in hqm hqA hxm
    subst e
    exact ⟨y, rfl, hy, fun e => hqp (e ▸ mem_l hks hxm)⟩
  have hseg : ∀ x ∈ ((A.cells[q]).kids.drop a).take c, ∃ y : Nat, x = (y : Int) ∧ y ∈ post A 0 top ∧ y ≠ q := fun x hxm => hkid x (List.mem_of_mem_drop (List.mem_of_mem_take hxm))
  have hint : ∀ x ∈ ((A.cells[q]).kids.drop a).take c, ∃ y : Nat, x = (y : Int) := fun x hxm => by obtain ⟨y, e, _⟩ := hseg x hxm; exact ⟨y, e⟩
  have hqi := hold q hqm
  refine ⟨hiB, hqi, fun x hxm => ?_, hBA q hqm, ?_⟩
  · obtain ⟨y, e, hy, hne⟩ := hkid x hxm
    exact ⟨y, e, h.tr.lt y hy, hold y hy, hne⟩
  obtain ⟨p1, p2, p3, p4, p5, p6⟩ := setPars_same (((A.cells[q]).kids.drop a).take c) (B.setKids i (((A.cells[q]).kids.drop a).take c) kv) (i : Int)
  have hnq : (q : Int) ∉ ((A.cells[q]).kids.drop a).take c := fun hm => by
    obtain ⟨y, e, _, hne⟩ := hseg _ hm
    exact hne (by omega)
  have hni : (i : Int) ∉ ((A.cells[q]).kids.drop a).take c := fun hm => by
    obtain ⟨y, e, hy, _⟩ := hseg _ hm
    exact hold y hy (by omega)
  refine h.wrap f hx hsz hL hqA kv kv' (by rw [Ar.setKids_len, p6, Ar.setKids_len]) p3 p4 p5 ?_ ?_ ?_ ?_
  · rw [setKids_ne _ _ _ _ (Ne.symm hqi), setPars_get _ hint, if_neg hni, setKids_get, if_pos rfl]
  · intro x hxm
    obtain ⟨y, e, hy, hne⟩ := hseg _ hxm
    have : y = x := by omega
    subst this
    rw [setKids_ne _ _ _ _ hne, setPars_get _ hint, if_pos hxm, setKids_ne _ _ _ _ (hold y hy), hBA y hy]
  · rw [setKids_get, if_pos rfl, setPars_get _ hint, if_neg hnq, setKids_ne _ _ _ _ hqi, hBA q hqm, List.getElem?_eq_getElem hqA]
    rfl
  · intro j h1 h2 h3
    rw [setKids_ne _ _ _ _ h2, setPars_get _ hint, if_neg h3, setKids_ne _ _ _ _ h1]
end
theorem Nd.height_le_heights : ∀ {l : List Nd} {k : Nd}, k ∈ l → k.height ≤ Nd.heights l
  | x :: l, k, h => by
    rw [Nd.heights]
    rcases List.mem_cons.1 h with rfl | h
    · omega
    · have := Nd.height_le_heights h; omega
theorem Nd.heights_le : ∀ {l : List Nd} {m : Int}, 0 ≤ m → (∀ k ∈ l, (k.height : Int) ≤ m) → (Nd.heights l : Int) ≤ m
  | [], m, h0, _ => by rw [Nd.heights]; omega
  | x :: l, m, h0, h => by
    rw [Nd.heights]
    have h1 := h x (List.mem_cons_self)
    have h2 := Nd.heights_le h0 (fun k hk => h k (List.mem_cons_of_mem _ hk))
    omega
theorem Nd.fits_deep {top : Nd} {i : Int} {g : Bool} {d : Int} (h : Nd.fits top (.mk i g []) d = 0) : d ≤ 64 := by
  rw [Nd.fits] at h
  split at h
  · cases h
  · rw [Nd.wrong] at h
    repeat' split at h
    all_goals first | (exact absurd h (by decide)) | omega
end Go.Tr
namespace Go.Proofs.YtggcpoleklcmkaaGreatDoor
open Go.Sl Go.Ls Go.Tr
set_option maxRecDepth 100000
set_option maxHeartbeats 4000000
set_option linter.unusedVariables false
set_option linter.unusedSimpArgs false
attribute [local irreducible] WC WL WX WK WA WAK Val Ctr RunRes ResIs Rd At sl box pt Exit.then Exit.inBlock bodyPost Code.wp wpList
theorem sCloneSub (xs : List Int) (s : Value) (I : Mem) (a c : Nat) (aa : Option Addr) (cc : Nat) (hac : a + c ≤ xs.length) (haa : 0 < c → ∃ g cap, s = .slice (some ⟨g, 0, none⟩) xs.length cap ∧ aa = some ⟨g, a, none⟩) (hcc : c ≤ cc) (hl : xs.length ≤ 1099511627776) :
    Ctr Tryz.prog 119 [.slice aa c cc] I [sl 3 1 s xs.length (xs.map vi)]
      (fun r I' L' => I' = I ∧ L' = [sl 3 1 s xs.length (xs.map vi), sl 3 1 r c (((xs.drop a).take c).map vi)]) := by
  refine Ctr.intro Tryz.func119 rfl rfl rfl fun E F => ?_
  cases aa with
  | none =>
    have h0 : c = 0 := by
      rcases Nat.eq_zero_or_pos c with h | h
      · exact h
      · obtain ⟨g, cap, _, e⟩ := haa h; cases e
    subst h0
    refine WC.seq ?_
    refine WC.region ?_
    refine WL.val (Val.assignS rfl) rfl ?_
    refine WL.nil ?_
    refine WX.thenC ?_
    refine WC.seq ?_
    refine WC.seq ?_
    refine WC.region ?_
    refine WL.val (Val.moveS rfl) rfl ?_
    refine WL.val (Val.eqlNil rfl) rfl ?_
    refine WL.slNil 3 1 ?_
    refine WL.nApp ?_
    refine WL.nil ?_
    refine WX.thenC ?_
    refine WC.condT rfl ?_
    refine WC.seq ?_
    refine WC.region ?_
    refine WL.val (Val.assignS rfl) rfl ?_
    refine WL.nil ?_
    refine WX.thenC ?_
    refine WC.ret ?_
    refine WX.thenRet ?_
    apply WX.doneP (ks := [0, 0])
    case hres => exact RunRes.r1 rfl (ResIs.tmpS rfl)
    case hI => first | exact Mem.le.refl _ | assumption
    exact ⟨rfl, by rw [List.take_zero]; rfl⟩
  | some ad =>
    refine WC.seq ?_
    refine WC.region ?_
    refine WL.val (Val.assignS rfl) rfl ?_
    refine WL.nil ?_
    refine WX.thenC ?_
    refine WC.seq ?_
    refine WC.seq ?_
    refine WC.region ?_
    refine WL.val (Val.moveS rfl) rfl ?_
    refine WL.val (Val.eqlNil rfl) rfl ?_
    refine WL.nil ?_
    refine WX.thenC ?_
    refine WC.condF rfl ?_
    refine WC.skip ?_
    refine WX.thenC ?_
    refine WC.seq ?_
    refine WC.region ?_
    (refine WL.buildSlice (by with_unfolding_all exact rfl) rfl (by with_unfolding_all exact rfl) rfl ?_; intro _)
    refine WL.nApp ?_
    refine WL.val (Val.moveS rfl) rfl ?_
    refine WL.boxSl (e := 3) (sz := 1) (n := 0) (xs := []) 2 rfl rfl (by decide) ?_
    rcases Nat.eq_zero_or_pos c with h0 | h0
    · subst h0
      refine WL.append0 2 rfl rfl rfl rfl ?_
      refine WL.val (Val.assignS rfl) rfl ?_
      refine WL.nil ?_
      refine WX.thenC ?_
      refine WC.ret ?_
      apply WX.doneP (ks := [0, 0])
      case hres => exact RunRes.r1 rfl (ResIs.tmpS rfl)
      case hI => first | exact Mem.le.refl _ | assumption
      exact ⟨rfl, by rw [List.take_zero]; rfl⟩
    · obtain ⟨g, cap, rfl, e⟩ := haa h0
      injection e with e
      subst e
      have hlen : ((xs.drop a).take c).length = c := by rw [List.length_take, List.length_drop]; omega
      refine WL.append 2 rfl rfl rfl (Rd.slN 1 rfl a (((xs.drop a).take c).map vi) (fun q u h => ?_)) (by rw [List.length_map, Nat.mul_one]; exact hlen) (all_vi _) rfl (by decide) h0 (by omega) (by unfold maxLen; omega) rfl fun g cap => ?_
      · rw [List.getElem?_map, List.getElem?_take] at h
        split at h
        · rw [List.getElem?_drop] at h
          rw [List.getElem?_map]
          exact h
        · cases h
      refine WL.nSet ?_
      refine WL.val (Val.assignS rfl) rfl ?_
      refine WL.nil ?_
      refine WX.thenC ?_
      refine WC.ret ?_
      apply WX.doneP (ks := [0, 0])
      case hres => exact RunRes.r1 rfl (ResIs.tmpS rfl)
      case hI => first | exact Mem.le.refl _ | assumption
      refine ⟨rfl, ?_⟩
      rw [Nat.zero_add]
      rfl
end Go.Proofs.YtggcpoleklcmkaaGreatDoor

/-
  Tree, the program's: Wrap.
-/

namespace Go.Proofs.YtggcpoleklcmkaaGreatDoor
open Go.Sl Go.Ls Go.Tr
set_option maxRecDepth 100000
set_option maxHeartbeats 8000000
set_option linter.unusedVariables false
set_option linter.unusedSimpArgs false
attribute [local irreducible] WC WL WX WK WA WAK Val Ctr RunRes ResIs Rd At sl box pt Exit.then Exit.inBlock bodyPost Code.wp wpList
theorem tWrap (A : Ar) (top : Nd) (hA : Abs A top) (i parent index count : Int) (I : Mem) (hi64 : I64 i) (hc64 : I64 count) :
    Ctr Tryz.prog 114 [ptr A.b, vi i, vi parent, vi index, vi count] I A.hp (RetA A (Nd.wrap top i parent index count)) := by
  have hsle := hA.size_le
  have hcap := hA.cap
  refine Ctr.intro Tryz.func114 rfl rfl rfl fun E F => ?_
  refine WC.seq ?_
  refine WC.region ?_
  refine WL.val (Val.assignI rfl) rfl ?_
  refine WL.nil ?_
  refine WX.thenC ?_
  refine WC.seq ?_
  refine WC.region ?_
  refine WL.val (Val.moveP rfl) rfl ?_
  refine WL.val (Val.moveI rfl) rfl ?_
  refine WL.callK [1, 1, 1, 1, 1] rfl rfl rfl (tGroup A parent _ hA.ok) rfl ?_
  rintro _ rfl
  rcases hA.grp parent with ⟨hg, hfn⟩ | ⟨p, qp, np, R, RO, hpl, hatp, hpm, hnp, hfindp, f, hcg, hg⟩
  · rw [hg]
    refine WL.val (Val.moveT rfl) rfl ?_
    refine WL.val (Val.extractI rfl rfl) rfl ?_
    refine WL.val (Val.extractI rfl rfl) rfl ?_
    refine WL.val (Val.assignI rfl) rfl ?_
    refine WL.val (Val.assignI rfl) rfl ?_
    refine WL.nil ?_
    refine WX.thenC ?_
    refine WC.seq ?_
    refine WC.seq ?_
    refine WC.region ?_
    refine WL.val (Val.moveI rfl) rfl ?_
    refine WL.val (Val.neq rfl rfl (bne_iff_ne.2 (by omega))) rfl ?_
    refine WL.nil ?_
    refine WX.thenC ?_
    refine WC.condT rfl ?_
    refine WC.seq ?_
    refine WC.region ?_
    refine WL.val (Val.moveI rfl) rfl ?_
    refine WL.val (Val.assignI rfl) rfl ?_
    refine WL.nil ?_
    refine WX.thenC ?_
    refine WC.ret ?_
    refine WX.thenRet ?_
    apply WX.doneP (ks := [0, 0, 0, 0, 0])
    case hres => exact RunRes.r1 rfl (ResIs.tmpI rfl)
    case hI => first | exact Mem.le.refl _ | assumption
    rw [Nd.wrap, hfn]
    exact ⟨rfl, A, rfl, rfl, hA⟩
  rw [hg]
  have hwr : Nd.wrap top i parent index count = (if np.grp = false then (top, 33)
    else if index < 0 ∨ count < 0 ∨ (np.kids.length : Int) < index ∨ (np.kids.length : Int) - index < count then (top, 30)
    else if Nd.fits top (.mk i true []) (Nd.depth parent top + 1) ≠ 0 then (top, Nd.fits top (.mk i true []) (Nd.depth parent top + 1))
    else if 64 < Nd.depth parent top + 1 + (Nd.mk i true ((np.kids.drop index.toNat).take count.toNat)).height - 1 then (top, 35)
    else (Nd.with_ parent (np.kids.take index.toNat ++ (.mk i true ((np.kids.drop index.toNat).take count.toNat) :: np.kids.drop (index.toNat + count.toNat))) top, 0)) := by
    rw [Nd.wrap, hfindp]
  rw [hwr]
  cases hng : np.grp
  · skip
    refine WL.val (Val.moveT rfl) rfl ?_
    refine WL.val (Val.extractI rfl rfl) rfl ?_
    refine WL.val (Val.extractI rfl rfl) rfl ?_
    refine WL.val (Val.assignI rfl) rfl ?_
    refine WL.val (Val.assignI rfl) rfl ?_
    refine WL.nil ?_
    refine WX.thenC ?_
    refine WC.seq ?_
    refine WC.seq ?_
    refine WC.region ?_
    refine WL.val (Val.moveI rfl) rfl ?_
    refine WL.val (Val.neq rfl rfl rfl) rfl ?_
    refine WL.nil ?_
    refine WX.thenC ?_
    refine WC.condT rfl ?_
    refine WC.seq ?_
    refine WC.region ?_
    refine WL.val (Val.moveI rfl) rfl ?_
    refine WL.val (Val.assignI rfl) rfl ?_
    refine WL.nil ?_
    refine WX.thenC ?_
    refine WC.ret ?_
    refine WX.thenRet ?_
    apply WX.doneP (ks := [0, 0, 0, 0, 0])
    case hres => exact RunRes.r1 rfl (ResIs.tmpI rfl)
    case hI => first | exact Mem.le.refl _ | assumption
    exact ⟨rfl, A, rfl, rfl, hA⟩
  simp only [if_true, Bool.true_eq_false, if_false]
  obtain ⟨_, hcid, _, hpar, hks⟩ := f.tr.ex
  have hlk := hks.len
  have hc3 := Ar.c3 hpl
  have hrow := Ar.row hpl
  have hnps := f.size
  have hnpl := Nd.len_le_sizes np.kids
  have hnpz := sizes_lt np
  refine WL.rowOpen3 5 p rfl hrow fun ra rc hkvp hrg hrcap => ?_
  rw [hkvp, hlk] at hc3
  rw [hkvp] at hrow
  obtain ⟨l, hl, hdep, hlp⟩ := hA.up hpm
  have hidp : A.idAt p = parent := by rw [f.id, hnp]
  rw [hidp] at hdep
  have hdle := (Nd.depth_le parent top).1
  by_cases h1 : index < 0
  · skip
    refine WL.val (Val.moveT rfl) rfl ?_
    refine WL.val (Val.extractI rfl rfl) rfl ?_
    refine WL.val (Val.extractI rfl rfl) rfl ?_
    refine WL.val (Val.assignI rfl) rfl ?_
    refine WL.val (Val.assignI rfl) rfl ?_
    refine WL.nil ?_
    refine WX.thenC ?_
    refine WC.seq ?_
    refine WC.seq ?_
    refine WC.region ?_
    refine WL.val (Val.moveI rfl) rfl ?_
    refine WL.val (Val.neq rfl rfl (bne_eq_false_iff_eq.2 (by omega))) rfl ?_
    refine WL.nil ?_
    refine WX.thenC ?_
    refine WC.condF rfl ?_
    refine WC.skip ?_
    refine WX.thenC ?_
    refine WC.seq ?_
    refine WC.region ?_
    refine WL.val (Val.moveP rfl) rfl ?_
    refine WL.val (Val.nilCheckP rfl) rfl ?_
    refine WL.val (Val.fldAddr rfl) rfl ?_
    refine WL.val (Val.loadS rfl (Rd.own1 1 rfl rfl)) rfl ?_
    refine WL.val (Val.moveI rfl) rfl ?_
    refine WL.val (Val.indexAddr rfl rfl (by omega) (by omega)) rfl ?_
    refine WL.val (Val.fldAddr rfl) rfl ?_
    refine WL.val (Val.loadS rfl (Rd.sl1 2 rfl (by assumption))) rfl ?_
    refine WL.val (Val.assignS rfl) rfl ?_
    refine WL.nil ?_
    refine WX.thenC ?_
    refine WC.seq ?_
    refine WC.seq ?_
    refine WC.region ?_
    refine WL.val (Val.moveI rfl) rfl ?_
    refine WL.val (Val.lss rfl rfl (decide_eq_true (by omega))) rfl ?_
    refine WL.val (Val.moveB rfl) rfl ?_
    refine WL.gF rfl rfl rfl rfl ?_
    refine WL.gF rfl rfl rfl rfl ?_
    refine WL.val (Val.pick rfl) rfl ?_
    refine WL.val (Val.moveB rfl) rfl ?_
    refine WL.gF rfl rfl rfl rfl ?_
    refine WL.gF rfl rfl rfl rfl ?_
    refine WL.gF rfl rfl rfl rfl ?_
    refine WL.gF rfl rfl rfl rfl ?_
    refine WL.val (Val.pick rfl) rfl ?_
    refine WL.val (Val.moveB rfl) rfl ?_
    refine WL.gF rfl rfl rfl rfl ?_
    refine WL.gF rfl rfl rfl rfl ?_
    refine WL.gF rfl rfl rfl rfl ?_
    refine WL.gF rfl rfl rfl rfl ?_
    refine WL.gF rfl rfl rfl rfl ?_
    refine WL.gF rfl rfl rfl rfl ?_
    refine WL.val (Val.pick rfl) rfl ?_
    refine WL.nil ?_
    refine WX.thenC ?_
    refine WC.condT rfl ?_
    refine WC.seq ?_
    refine WC.region ?_
    refine WL.val (Val.assignI rfl) rfl ?_
    refine WL.nil ?_
    refine WX.thenC ?_
    refine WC.ret ?_
    refine WX.thenRet ?_
    apply WX.doneP (ks := [0, 0, 0, 0, 0])
    case hres => exact RunRes.r1 rfl (ResIs.tmpI rfl)
    case hI => first | exact Mem.le.refl _ | assumption
    rw [if_pos (.inl h1)]
    exact ⟨rfl, A, rfl, rfl, hA⟩
  by_cases h2 : count < 0
  · skip
    refine WL.val (Val.moveT rfl) rfl ?_
    refine WL.val (Val.extractI rfl rfl) rfl ?_
    refine WL.val (Val.extractI rfl rfl) rfl ?_
    refine WL.val (Val.assignI rfl) rfl ?_
    refine WL.val (Val.assignI rfl) rfl ?_
    refine WL.nil ?_
    refine WX.thenC ?_
    refine WC.seq ?_
    refine WC.seq ?_
    refine WC.region ?_
    refine WL.val (Val.moveI rfl) rfl ?_
    refine WL.val (Val.neq rfl rfl (bne_eq_false_iff_eq.2 (by omega))) rfl ?_
    refine WL.nil ?_
    refine WX.thenC ?_
    refine WC.condF rfl ?_
    refine WC.skip ?_
    refine WX.thenC ?_
    refine WC.seq ?_
    refine WC.region ?_
    refine WL.val (Val.moveP rfl) rfl ?_
    refine WL.val (Val.nilCheckP rfl) rfl ?_
    refine WL.val (Val.fldAddr rfl) rfl ?_
    refine WL.val (Val.loadS rfl (Rd.own1 1 rfl rfl)) rfl ?_
    refine WL.val (Val.moveI rfl) rfl ?_
    refine WL.val (Val.indexAddr rfl rfl (by omega) (by omega)) rfl ?_
    refine WL.val (Val.fldAddr rfl) rfl ?_
    refine WL.val (Val.loadS rfl (Rd.sl1 2 rfl (by assumption))) rfl ?_
    refine WL.val (Val.assignS rfl) rfl ?_
    refine WL.nil ?_
    refine WX.thenC ?_
    refine WC.seq ?_
    refine WC.seq ?_
    refine WC.region ?_
    refine WL.val (Val.moveI rfl) rfl ?_
    refine WL.val (Val.lss rfl rfl (decide_eq_false (by omega))) rfl ?_
    refine WL.val (Val.moveB rfl) rfl ?_
    refine WL.gT rfl rfl ?_
    refine WL.val (Val.moveI rfl) rfl ?_
    refine WL.gT rfl rfl ?_
    refine WL.val (Val.lss rfl rfl (decide_eq_true (by omega))) rfl ?_
    refine WL.val (Val.pick rfl) rfl ?_
    refine WL.val (Val.moveB rfl) rfl ?_
    refine WL.gF rfl rfl rfl rfl ?_
    refine WL.gF rfl rfl rfl rfl ?_
    refine WL.gF rfl rfl rfl rfl ?_
    refine WL.gF rfl rfl rfl rfl ?_
    refine WL.val (Val.pick rfl) rfl ?_
    refine WL.val (Val.moveB rfl) rfl ?_
    refine WL.gF rfl rfl rfl rfl ?_
    refine WL.gF rfl rfl rfl rfl ?_
    refine WL.gF rfl rfl rfl rfl ?_
    refine WL.gF rfl rfl rfl rfl ?_
    refine WL.gF rfl rfl rfl rfl ?_
    refine WL.gF rfl rfl rfl rfl ?_
    refine WL.val (Val.pick rfl) rfl ?_
    refine WL.nil ?_
    refine WX.thenC ?_
    refine WC.condT rfl ?_
    refine WC.seq ?_
    refine WC.region ?_
    refine WL.val (Val.assignI rfl) rfl ?_
    refine WL.nil ?_
    refine WX.thenC ?_
    refine WC.ret ?_
    refine WX.thenRet ?_
    apply WX.doneP (ks := [0, 0, 0, 0, 0])
    case hres => exact RunRes.r1 rfl (ResIs.tmpI rfl)
    case hI => first | exact Mem.le.refl _ | assumption
    rw [if_pos (.inr (.inl h2))]
    exact ⟨rfl, A, rfl, rfl, hA⟩
  obtain ⟨a, rfl⟩ := Int.eq_ofNat_of_zero_le (by omega : 0 ≤ index)
  obtain ⟨c, rfl⟩ := Int.eq_ofNat_of_zero_le (by omega : 0 ≤ count)
  by_cases h3 : (np.kids.length : Int) < a
  · skip
    refine WL.val (Val.moveT rfl) rfl ?_
    refine WL.val (Val.extractI rfl rfl) rfl ?_
    refine WL.val (Val.extractI rfl rfl) rfl ?_
    refine WL.val (Val.assignI rfl) rfl ?_
    refine WL.val (Val.assignI rfl) rfl ?_
    refine WL.nil ?_
    refine WX.thenC ?_
    refine WC.seq ?_
    refine WC.seq ?_
    refine WC.region ?_
    refine WL.val (Val.moveI rfl) rfl ?_
    refine WL.val (Val.neq rfl rfl (bne_eq_false_iff_eq.2 (by omega))) rfl ?_
    refine WL.nil ?_
    refine WX.thenC ?_
    refine WC.condF rfl ?_
    refine WC.skip ?_
    refine WX.thenC ?_
    refine WC.seq ?_
    refine WC.region ?_
    refine WL.val (Val.moveP rfl) rfl ?_
    refine WL.val (Val.nilCheckP rfl) rfl ?_
    refine WL.val (Val.fldAddr rfl) rfl ?_
    refine WL.val (Val.loadS rfl (Rd.own1 1 rfl rfl)) rfl ?_
    refine WL.val (Val.moveI rfl) rfl ?_
    refine WL.val (Val.indexAddr rfl rfl (by omega) (by omega)) rfl ?_
    refine WL.val (Val.fldAddr rfl) rfl ?_
    refine WL.val (Val.loadS rfl (Rd.sl1 2 rfl (by assumption))) rfl ?_
    refine WL.val (Val.assignS rfl) rfl ?_
    refine WL.nil ?_
    refine WX.thenC ?_
    refine WC.seq ?_
    refine WC.seq ?_
    refine WC.region ?_
    refine WL.val (Val.moveI rfl) rfl ?_
    refine WL.val (Val.lss rfl rfl (decide_eq_false (by omega))) rfl ?_
    refine WL.val (Val.moveB rfl) rfl ?_
    refine WL.gT rfl rfl ?_
    refine WL.val (Val.moveI rfl) rfl ?_
    refine WL.gT rfl rfl ?_
    refine WL.val (Val.lss rfl rfl (decide_eq_false (by omega))) rfl ?_
    refine WL.val (Val.pick rfl) rfl ?_
    refine WL.val (Val.moveB rfl) rfl ?_
    refine WL.gT rfl rfl ?_
    refine WL.val (Val.moveI rfl) rfl ?_
    refine WL.gT rfl rfl ?_
    refine WL.val (Val.moveS rfl) rfl ?_
    refine WL.gT rfl rfl ?_
    refine WL.val (Val.len rfl) rfl ?_
    refine WL.gT rfl rfl ?_
    refine WL.val (Val.gtr rfl rfl (decide_eq_true (by omega))) rfl ?_
    refine WL.val (Val.pick rfl) rfl ?_
    refine WL.val (Val.moveB rfl) rfl ?_
    refine WL.gF rfl rfl rfl rfl ?_
    refine WL.gF rfl rfl rfl rfl ?_
    refine WL.gF rfl rfl rfl rfl ?_
    refine WL.gF rfl rfl rfl rfl ?_
    refine WL.gF rfl rfl rfl rfl ?_
    refine WL.gF rfl rfl rfl rfl ?_
    refine WL.val (Val.pick rfl) rfl ?_
    refine WL.nil ?_
    refine WX.thenC ?_
    refine WC.condT rfl ?_
    refine WC.seq ?_
    refine WC.region ?_
    refine WL.val (Val.assignI rfl) rfl ?_
    refine WL.nil ?_
    refine WX.thenC ?_
    refine WC.ret ?_
    refine WX.thenRet ?_
    apply WX.doneP (ks := [0, 0, 0, 0, 0])
    case hres => exact RunRes.r1 rfl (ResIs.tmpI rfl)
    case hI => first | exact Mem.le.refl _ | assumption
    rw [if_pos (.inr (.inr (.inl h3)))]
    exact ⟨rfl, A, rfl, rfl, hA⟩
  by_cases h4 : (np.kids.length : Int) - a < c
  · skip
    refine WL.val (Val.moveT rfl) rfl ?_
    refine WL.val (Val.extractI rfl rfl) rfl ?_
    refine WL.val (Val.extractI rfl rfl) rfl ?_
    refine WL.val (Val.assignI rfl) rfl ?_
    refine WL.val (Val.assignI rfl) rfl ?_
    refine WL.nil ?_
    refine WX.thenC ?_
    refine WC.seq ?_
    refine WC.seq ?_
    refine WC.region ?_
    refine WL.val (Val.moveI rfl) rfl ?_
    refine WL.val (Val.neq rfl rfl (bne_eq_false_iff_eq.2 (by omega))) rfl ?_
    refine WL.nil ?_
    refine WX.thenC ?_
    refine WC.condF rfl ?_
    refine WC.skip ?_
    refine WX.thenC ?_
    refine WC.seq ?_
    refine WC.region ?_
    refine WL.val (Val.moveP rfl) rfl ?_
    refine WL.val (Val.nilCheckP rfl) rfl ?_
    refine WL.val (Val.fldAddr rfl) rfl ?_
    refine WL.val (Val.loadS rfl (Rd.own1 1 rfl rfl)) rfl ?_
    refine WL.val (Val.moveI rfl) rfl ?_
    refine WL.val (Val.indexAddr rfl rfl (by omega) (by omega)) rfl ?_
    refine WL.val (Val.fldAddr rfl) rfl ?_
    refine WL.val (Val.loadS rfl (Rd.sl1 2 rfl (by assumption))) rfl ?_
    refine WL.val (Val.assignS rfl) rfl ?_
    refine WL.nil ?_
    refine WX.thenC ?_
    refine WC.seq ?_
    refine WC.seq ?_
    refine WC.region ?_
    refine WL.val (Val.moveI rfl) rfl ?_
    refine WL.val (Val.lss rfl rfl (decide_eq_false (by omega))) rfl ?_
    refine WL.val (Val.moveB rfl) rfl ?_
    refine WL.gT rfl rfl ?_
    refine WL.val (Val.moveI rfl) rfl ?_
    refine WL.gT rfl rfl ?_
    refine WL.val (Val.lss rfl rfl (decide_eq_false (by omega))) rfl ?_
    refine WL.val (Val.pick rfl) rfl ?_
    refine WL.val (Val.moveB rfl) rfl ?_
    refine WL.gT rfl rfl ?_
    refine WL.val (Val.moveI rfl) rfl ?_
    refine WL.gT rfl rfl ?_
    refine WL.val (Val.moveS rfl) rfl ?_
    refine WL.gT rfl rfl ?_
    refine WL.val (Val.len rfl) rfl ?_
    refine WL.gT rfl rfl ?_
    refine WL.val (Val.gtr rfl rfl (decide_eq_false (by omega))) rfl ?_
    refine WL.val (Val.pick rfl) rfl ?_
    refine WL.val (Val.moveB rfl) rfl ?_
    refine WL.gT rfl rfl ?_
    refine WL.val (Val.moveI rfl) rfl ?_
    refine WL.gT rfl rfl ?_
    refine WL.val (Val.moveS rfl) rfl ?_
    refine WL.gT rfl rfl ?_
    refine WL.val (Val.len rfl) rfl ?_
    refine WL.gT rfl rfl ?_
    refine WL.val (Val.moveI rfl) rfl ?_
    refine WL.gT rfl rfl ?_
    refine WL.val (Val.sub rfl rfl (wrap_i64 (by omega) (by omega))) rfl ?_
    refine WL.gT rfl rfl ?_
    refine WL.val (Val.gtr rfl rfl (decide_eq_true (by omega))) rfl ?_
    refine WL.val (Val.pick rfl) rfl ?_
    refine WL.nil ?_
    refine WX.thenC ?_
    refine WC.condT rfl ?_
    refine WC.seq ?_
    refine WC.region ?_
    refine WL.val (Val.assignI rfl) rfl ?_
    refine WL.nil ?_
    refine WX.thenC ?_
    refine WC.ret ?_
    refine WX.thenRet ?_
    apply WX.doneP (ks := [0, 0, 0, 0, 0])
    case hres => exact RunRes.r1 rfl (ResIs.tmpI rfl)
    case hI => first | exact Mem.le.refl _ | assumption
    rw [if_pos (.inr (.inr (.inr h4)))]
    exact ⟨rfl, A, rfl, rfl, hA⟩
  have hac : a + c ≤ np.kids.length := by omega
  rw [if_neg (by omega)]
  simp only [Int.toNat_natCast]
  refine WL.val (Val.moveT rfl) rfl ?_
  refine WL.val (Val.extractI rfl rfl) rfl ?_
  refine WL.val (Val.extractI rfl rfl) rfl ?_
  refine WL.val (Val.assignI rfl) rfl ?_
  refine WL.val (Val.assignI rfl) rfl ?_
  refine WL.nil ?_
  refine WX.thenC ?_
  refine WC.seq ?_
  refine WC.seq ?_
  refine WC.region ?_
  refine WL.val (Val.moveI rfl) rfl ?_
  refine WL.val (Val.neq rfl rfl (bne_eq_false_iff_eq.2 (by omega))) rfl ?_
  refine WL.nil ?_
  refine WX.thenC ?_
  refine WC.condF rfl ?_
  refine WC.skip ?_
  refine WX.thenC ?_
  refine WC.seq ?_
  refine WC.region ?_
  refine WL.val (Val.moveP rfl) rfl ?_
  refine WL.val (Val.nilCheckP rfl) rfl ?_
  refine WL.val (Val.fldAddr rfl) rfl ?_
  refine WL.val (Val.loadS rfl (Rd.own1 1 rfl rfl)) rfl ?_
  refine WL.val (Val.moveI rfl) rfl ?_
  refine WL.val (Val.indexAddr rfl rfl (by omega) (by omega)) rfl ?_
  refine WL.val (Val.fldAddr rfl) rfl ?_
  refine WL.val (Val.loadS rfl (Rd.sl1 2 rfl (by assumption))) rfl ?_
  refine WL.val (Val.assignS rfl) rfl ?_
  refine WL.nil ?_
  refine WX.thenC ?_
  refine WC.seq ?_
  refine WC.seq ?_
  refine WC.region ?_
  refine WL.val (Val.moveI rfl) rfl ?_
  refine WL.val (Val.lss rfl rfl (decide_eq_false (by omega))) rfl ?_
  refine WL.val (Val.moveB rfl) rfl ?_
  refine WL.gT rfl rfl ?_
  refine WL.val (Val.moveI rfl) rfl ?_
  refine WL.gT rfl rfl ?_
  refine WL.val (Val.lss rfl rfl (decide_eq_false (by omega))) rfl ?_
  refine WL.val (Val.pick rfl) rfl ?_
  refine WL.val (Val.moveB rfl) rfl ?_
  refine WL.gT rfl rfl ?_
  refine WL.val (Val.moveI rfl) rfl ?_
  refine WL.gT rfl rfl ?_
  refine WL.val (Val.moveS rfl) rfl ?_
  refine WL.gT rfl rfl ?_
  refine WL.val (Val.len rfl) rfl ?_
  refine WL.gT rfl rfl ?_
  refine WL.val (Val.gtr rfl rfl (decide_eq_false (by omega))) rfl ?_
  refine WL.val (Val.pick rfl) rfl ?_
  refine WL.val (Val.moveB rfl) rfl ?_
  refine WL.gT rfl rfl ?_
  refine WL.val (Val.moveI rfl) rfl ?_
  refine WL.gT rfl rfl ?_
  refine WL.val (Val.moveS rfl) rfl ?_
  refine WL.gT rfl rfl ?_
  refine WL.val (Val.len rfl) rfl ?_
  refine WL.gT rfl rfl ?_
  refine WL.val (Val.moveI rfl) rfl ?_
  refine WL.gT rfl rfl ?_
  refine WL.val (Val.sub rfl rfl (wrap_i64 (by omega) (by omega))) rfl ?_
  refine WL.gT rfl rfl ?_
  refine WL.val (Val.gtr rfl rfl (decide_eq_false (by omega))) rfl ?_
  refine WL.val (Val.pick rfl) rfl ?_
  refine WL.nil ?_
  refine WX.thenC ?_
  refine WC.condF rfl ?_
  refine WC.skip ?_
  refine WX.thenC ?_
  refine WC.seq ?_
  refine WC.region ?_
  refine WL.val (Val.moveP rfl) rfl ?_
  refine WL.val (Val.moveI rfl) rfl ?_
  refine WL.callK [1, 1, 1, 1, 1] rfl rfl rfl (tDepthP A p l _ hA.ok hl (by omega)) rfl ?_
  rintro _ rfl
  refine WL.val (Val.add rfl rfl (wrap_i64 (by omega) (by omega))) rfl ?_
  refine WL.val (Val.assignI rfl) rfl ?_
  refine WL.nil ?_
  refine WX.thenC ?_
  refine WC.seq ?_
  refine WC.seq ?_
  refine WC.region ?_
  refine WL.val (Val.moveP rfl) rfl ?_
  refine WL.val (Val.moveI rfl) rfl ?_
  refine WL.val (Val.build (cs := [vi i, .bool true, .slice none 0 0]) rfl) rfl ?_
  refine WL.val (Val.moveI rfl) rfl ?_
  refine WL.callR [1, 1, 1, 1, 1] rfl rfl rfl (tFits A top hA (.mk i true []) (.slice none 0 0) _ _ (by simp [Nd.size, Nd.sizes]) hi64 (LsAt.nil _ _) (by omega) (by omega)) rfl ?_
  rintro _ I2 hI2 rfl
  rw [← hdep]
  by_cases he : Nd.fits top (.mk i true []) (Nd.depth parent top + 1) = 0
  case neg =>
    rw [if_pos he]
    refine WL.val (Val.assignI rfl) rfl ?_
    refine WL.nil ?_
    refine WX.thenC ?_
    refine WC.seq ?_
    refine WC.region ?_
    refine WL.val (Val.moveI rfl) rfl ?_
    refine WL.val (Val.neq rfl rfl (bne_iff_ne.2 (by omega))) rfl ?_
    refine WL.nil ?_
    refine WX.thenC ?_
    refine WC.condT rfl ?_
    refine WC.seq ?_
    refine WC.region ?_
    refine WL.val (Val.moveI rfl) rfl ?_
    refine WL.val (Val.assignI rfl) rfl ?_
    refine WL.nil ?_
    refine WX.thenC ?_
    refine WC.ret ?_
    refine WX.thenRet ?_
    apply WX.doneP (ks := [0, 0, 0, 0, 0])
    case hres => exact RunRes.r1 rfl (ResIs.tmpI rfl)
    case hI => first | exact Mem.le.refl _ | assumption
    exact ⟨rfl, A, rfl, rfl, hA⟩
  rw [if_neg (by rw [he]; decide)]
  have hdeep := Nd.fits_deep he
  obtain ⟨_, hx, hsz⟩ := Nd.fits_ok he
  rw [he]
  have hxi := hx i (by simp [Nd.order])
  have hs1 : (Nd.mk i true []).size = 1 := by simp [Nd.size, Nd.sizes]
  rw [hs1] at hsz
  have eac : (a : Int) + (c : Int) = ((a + c : Nat) : Int) := by omega
  refine WL.val (Val.assignI rfl) rfl ?_
  refine WL.nil ?_
  refine WX.thenC ?_
  refine WC.seq ?_
  refine WC.region ?_
  refine WL.val (Val.moveI rfl) rfl ?_
  refine WL.val (Val.neq rfl rfl (bne_eq_false_iff_eq.2 (by omega))) rfl ?_
  refine WL.nil ?_
  refine WX.thenC ?_
  refine WC.condF rfl ?_
  refine WC.skip ?_
  refine WX.thenC ?_
  refine WC.seq ?_
  refine WC.region ?_
  refine WL.val (Val.moveS rfl) rfl ?_
  refine WL.val (Val.moveI rfl) rfl ?_
  refine WL.val (Val.moveI rfl) rfl ?_
  refine WL.val (Val.moveI rfl) rfl ?_
  refine WL.val (Val.add rfl rfl (wrap_i64 (by omega) (by omega))) rfl ?_
  rw [eac]
  refine WL.val (Val.sliceMidO rfl rfl rfl (by omega) (by omega)) rfl ?_
  rw [Nat.add_sub_cancel_left]
  refine WL.rowTake 5 p rfl hrow ?_
  refine WL.callP [0] rfl rfl (sCloneSub (A.cells[p]).kids (.slice ra (A.cells[p]).kids.length rc) _ a c _ _ (by omega) (fun h0 => ?_) (by omega) (by omega)) rfl ?_
  · obtain ⟨g, rfl⟩ := hrg (by omega)
    exact ⟨g, rc, rfl, by rw [if_neg (by omega), Option.map_some, addr_add, Nat.zero_add, Nat.mul_one]⟩
  rintro sv I3 _ hI3 ⟨rfl, rfl⟩
  refine WL.nApp ?_
  refine WL.conv (fun w h => h.sub [6, 0, 0, 0, 0, 0, 0, 0] rfl) ?_
  refine WL.rowPut 5 p rfl (by simpa using hpl) ?_
  refine WL.nSet ?_
  rw [set_same hrow]
  have hd2 : Nd.depth parent top + 1 = ((Nd.depth parent top + 1 : Int)) := rfl
  obtain ⟨_, s2, _, _⟩ := split3 hks a c
  have hsegl : (((A.cells[p]).kids.drop a).take c).length = c := by rw [List.length_take, List.length_drop]; omega
  have hnsl : ((np.kids.drop a).take c).length = c := by rw [List.length_take, List.length_drop]; omega
  have hhsz : ∀ x ∈ (np.kids.drop a).take c, x.size ≤ 100000 := fun x hm => by
    have := Nd.size_le_sizes (List.mem_of_mem_drop (List.mem_of_mem_take hm))
    omega
  have hhe : (Nd.mk i true ((np.kids.drop a).take c)).height = Nd.heights ((np.kids.drop a).take c) + 1 := by rw [Nd.height]
  have hw2 := fun B j kv kv' (hL : Laid A B (p : Int) j (.mk i true [])) => hA.wrap2 f (id := i) ⟨hxi.1, hi64⟩ hsz a c hL hpl kv kv'
  generalize hseg : ((A.cells[p]).kids.drop a).take c = seg at *
  generalize hnseg : (np.kids.drop a).take c = nseg at *
  generalize hdd : Nd.depth parent top + 1 = d at *
  have hd0 : 0 ≤ d := by omega
  refine WL.slOpen 6 rfl fun sa sc hsv => ?_
  subst hsv
  refine WL.val (Val.assignS rfl) rfl ?_
  refine WL.nil ?_
  refine WX.thenC ?_
  refine WC.seq ?_
  refine WC.seq ?_
  refine WC.region ?_
  refine WL.val (Val.moveS rfl) rfl ?_
  refine WL.val (Val.len rfl) rfl ?_
  refine WL.val (Val.moveI rfl) rfl ?_
  refine WL.nil ?_
  refine WX.thenC ?_
  refine WC.block ?_
  refine WC.loop (fun n ρ' I' L' => ∃ k : Nat, n = c - k ∧ k ≤ c ∧ I' = I3 ∧ ρ' 0 = ptr A.b ∧ ρ' 1 = vi i ∧ ρ' 3 = vi a ∧ ρ' 4 = vi c ∧ ρ' 11 = vi p ∧ ρ' 14 = vi d ∧ ρ' 16 = .slice sa c sc ∧ ρ' 78 = .slice sa c sc ∧ ρ' 79 = vi c ∧ ρ' 80 = vi k ∧
      L' = F :: A.on [sl 3 1 (.slice sa c sc) c (seg.map vi)] ∧ ∀ x ∈ nseg.take k, d + x.height ≤ 64)
    c ⟨0, rfl, by omega, rfl, rfl, rfl, rfl, rfl, rfl, rfl, rfl, rfl, rfl, rfl, rfl, by simp⟩ ?_
  rintro n ρ' I' L' ⟨k, rfl, hk, rfl, r0, r1, r3, r4, r11, r14, r16, r78, r79, r80, rfl, hall⟩
  rw [← upd_self r80, ← upd_self r79, ← upd_self r78, ← upd_self r16, ← upd_self r14, ← upd_self r11, ← upd_self r4, ← upd_self r3, ← upd_self r1, ← upd_self r0]
  clear r80 r79 r78 r16 r14 r11 r4 r3 r1 r0
  by_cases hkc : k < c
  · refine WC.slSome 6 rfl (by omega) fun g hg => ?_
    subst hg
    obtain ⟨y, hy, hty⟩ := s2.get k (by omega) (by omega)
    have hv : (seg.map vi)[0 + ((k : Nat) : Int).toNat * 1]? = some (vi y) := by
      rw [Nat.zero_add, Int.toNat_natCast, Nat.mul_one, List.getElem?_map, List.getElem?_eq_getElem (by omega), hy]; rfl
    have hmem : nseg[k] ∈ nseg := List.getElem_mem (by omega)
    have hsz1 := hhsz _ hmem
    have hhl := Nd.height_le nseg[k]
    refine WC.seq ?_
    refine WC.region ?_
    refine WL.val (Val.lss rfl rfl (decide_eq_true (by omega))) rfl ?_
    refine WL.nil ?_
    refine WX.thenC ?_
    refine WC.seq ?_
    refine WC.condT rfl ?_
    refine WC.skip ?_
    refine WX.thenC ?_
    refine WC.seq ?_
    refine WC.block ?_
    refine WC.seq ?_
    refine WC.region ?_
    refine WL.val (Val.indexAddr rfl rfl (by omega) (by omega)) rfl ?_
    refine WL.val (Val.loadS rfl (Rd.sl1 6 rfl hv)) rfl ?_
    refine WL.val (Val.assignI rfl) rfl ?_
    refine WL.nil ?_
    refine WX.thenC ?_
    refine WC.seq ?_
    refine WC.region ?_
    refine WL.val (Val.moveI rfl) rfl ?_
    refine WL.val (Val.moveP rfl) rfl ?_
    refine WL.val (Val.moveI rfl) rfl ?_
    refine WL.callK [1, 1, 1, 1, 1] rfl rfl rfl (tHeight A hA.ok _ nseg[k] (Nat.le_refl _) _ y _ (by omega) hty) rfl ?_
    rintro _ rfl
    by_cases hdh : 64 < d + (nseg[k].height : Int)
    · skip
      refine WL.val (Val.add rfl rfl (wrap_i64 (by omega) (by omega))) rfl ?_
      refine WL.val (Val.gtr rfl rfl (decide_eq_true (by omega))) rfl ?_
      refine WL.nil ?_
      refine WX.thenC ?_
      refine WC.condT rfl ?_
      refine WC.seq ?_
      refine WC.region ?_
      refine WL.val (Val.assignI rfl) rfl ?_
      refine WL.nil ?_
      refine WX.thenC ?_
      refine WC.ret ?_
      refine WX.inRet ?_
      refine WX.thenRet ?_
      refine WX.thenRet ?_
      refine WX.inRet ?_
      refine WX.thenRet ?_
      apply WX.doneP (ks := [0, 0, 0, 0, 0])
      case hres => exact RunRes.r1 rfl (ResIs.tmpI rfl)
      case hI => first | exact Mem.le.refl _ | assumption
      have := Nd.height_le_heights hmem
      rw [if_pos (by omega)]
      exact ⟨rfl, A, rfl, rfl, hA⟩
    · skip
      refine WL.val (Val.add rfl rfl (wrap_i64 (by omega) (by omega))) rfl ?_
      refine WL.val (Val.gtr rfl rfl (decide_eq_false (by omega))) rfl ?_
      refine WL.nil ?_
      refine WX.thenC ?_
      refine WC.condF rfl ?_
      refine WC.skip ?_
      refine WX.inNormal ?_
      refine WX.thenC ?_
      refine WC.region ?_
      refine WL.val (Val.add rfl rfl (wrap_i64 (by omega) (by omega))) rfl ?_
      refine WL.val (Val.moveI rfl) rfl ?_
      refine WL.nil ?_
      refine WX.thenK (WK.round (c - (k + 1)) (by omega) ⟨k + 1, rfl, by omega, rfl, rfl, rfl, rfl, rfl, rfl, rfl, rfl, rfl, rfl, rfl, rfl, ?_⟩)
      refine all_snoc hall (by omega) (by omega)
  have hall2 : (Nd.heights nseg : Int) ≤ 64 - d := Nd.heights_le (by omega) (fun x hm => by
    have := hall x (by rw [List.take_of_length_le (by omega)]; exact hm)
    omega)
  rw [if_neg (by omega)]
  refine WC.seq ?_
  refine WC.region ?_
  refine WL.val (Val.lss rfl rfl (decide_eq_false (by omega))) rfl ?_
  refine WL.nil ?_
  refine WX.thenC ?_
  refine WC.seq ?_
  refine WC.condF rfl ?_
  refine WC.exit ?_
  refine WX.thenExit ?_
  refine WX.thenExit ?_
  refine WX.inHit ?_
  refine WX.thenC ?_
  refine WC.seq ?_
  refine WC.region ?_
  refine WL.val (Val.moveP rfl) rfl ?_
  refine WL.val (Val.moveI rfl) rfl ?_
  refine WL.val (Val.build (cs := [vi i, .bool true, .slice none 0 0]) rfl) rfl ?_
  refine WL.val (Val.moveI rfl) rfl ?_
  refine WL.callP [1, 1, 1, 1, 1] rfl rfl (tLay _ (.mk i true []) (Nat.le_refl _) A p _ _ (by omega) (hA.layOk (by simp [Nd.order, Nd.orders]) (fun x hm => (hx x hm).1) (by omega)) (LsAt.nil _ _)) rfl ?_
  rintro _ I4 _ hI4 ⟨B, j, rfl, rfl, hL⟩
  have hJ := hI2.trans hI4
  obtain ⟨hjB, hpj, hkid, hBp, _⟩ := hw2 B j (.slice sa c sc) (.slice none 0 0) hL
  have hbB := hL.b
  rw [← hbB]
  have hrowB := Ar.row hjB
  have hpB : p < B.cells.length := Nat.lt_of_lt_of_le hpl hL.le
  have hsub : ∀ x ∈ seg, x ∈ (A.cells[p]).kids := fun x hm => by rw [← hseg] at hm; exact List.mem_of_mem_drop (List.mem_of_mem_take hm)
  have hint : ∀ x ∈ seg, ∃ y : Nat, x = (y : Int) := fun x hm => by obtain ⟨y, e, _⟩ := hkid x (hsub x hm); exact ⟨y, e⟩
  refine WL.nApp ?_
  refine WL.conv (fun w h => h.sub [0, 1, 1, 1, 1, 1, 0] rfl) ?_
  refine WL.val (Val.assignI rfl) rfl ?_
  refine WL.nil ?_
  refine WX.thenC ?_
  refine WC.seq ?_
  refine WC.region ?_
  refine WL.val (Val.moveP rfl) rfl ?_
  refine WL.val (Val.nilCheckP rfl) rfl ?_
  refine WL.val (Val.fldAddr rfl) rfl ?_
  refine WL.val (Val.loadS rfl (Rd.own1 1 rfl rfl)) rfl ?_
  refine WL.val (Val.moveI rfl) rfl ?_
  refine WL.val (Val.moveS rfl) rfl ?_
  refine WL.val (Val.indexAddr rfl rfl (by omega) (by omega)) rfl ?_
  refine WL.val (Val.fldAddr rfl) rfl ?_
  refine WL.storeSl 2 rfl rfl rfl rfl (by show 0 + (j : Int).toNat * 4 + 3 + 1 ≤ B.cells.length * 4; rw [Int.toNat_natCast]; omega) ?_
  refine WL.nSet ?_
  refine WL.rowTake 5 j rfl hrowB ?_
  refine WL.conv (fun w h => h.sub [7, 1, 1, 1, 1, 1, 1] rfl) ?_
  refine WL.rowPut 5 j rfl (by simpa using hjB) ?_
  refine WL.nSet ?_
  have hD0hp := Ar.setKids_hp B j seg (.slice sa c sc) hjB
  rw [hsegl] at hD0hp
  refine WL.conv (L' := F :: (B.setKids j seg (.slice sa c sc)).hp) (fun w h => by rw [hD0hp]; exact h) ?_
  obtain ⟨hjD0, eD0⟩ := setKids_at B j seg (.slice sa c sc) hjB
  have hD0p : (B.setKids j seg (.slice sa c sc)).cells[p]? = A.cells[p]? := by rw [setKids_ne _ _ _ _ hpj, hBp]
  have hD0l := Ar.setKids_len B j seg (.slice sa c sc)
  have hD0b : (B.setKids j seg (.slice sa c sc)).b = B.b := rfl
  rw [← hD0b]
  have hw3 := fun kv' => (hw2 B j (.slice sa c sc) kv' hL).2.2.2.2
  generalize hD0 : B.setKids j seg (.slice sa c sc) = D0 at *
  have hj0 : (j : Int) ∉ seg := fun hm => by
    obtain ⟨y, e, _, hne, _⟩ := hkid _ (hsub _ hm)
    exact hne (by omega)
  have hp0 : (p : Int) ∉ seg := fun hm => by
    obtain ⟨y, e, _, _, hne⟩ := hkid _ (hsub _ hm)
    exact hne (by omega)
  refine WL.nil ?_
  refine WX.thenC ?_
  refine WC.seq ?_
  refine WC.seq ?_
  refine WC.region ?_
  refine WL.val (Val.moveS rfl) rfl ?_
  refine WL.val (Val.len rfl) rfl ?_
  refine WL.val (Val.moveI rfl) rfl ?_
  refine WL.nil ?_
  refine WX.thenC ?_
  refine WC.block ?_
  refine WC.loop (fun n ρ' I' L' => ∃ k : Nat, n = c - k ∧ k ≤ c ∧ I' = I4 ∧ ρ' 0 = ptr (D0.setPars (seg.take k) j).b ∧ ρ' 3 = vi a ∧ ρ' 4 = vi c ∧ ρ' 11 = vi p ∧ ρ' 19 = vi j ∧ ρ' 104 = .slice sa c sc ∧ ρ' 105 = vi c ∧ ρ' 106 = vi k ∧
      L' = F :: (D0.setPars (seg.take k) j).hp)
    c ⟨0, rfl, by omega, rfl, rfl, rfl, rfl, rfl, rfl, rfl, rfl, rfl, rfl⟩ ?_
  rintro n ρ' I' L' ⟨k, rfl, hk, rfl, r0, r3, r4, r11, r19, r104, r105, r106, rfl⟩
  rw [← upd_self r106, ← upd_self r105, ← upd_self r104, ← upd_self r19, ← upd_self r11, ← upd_self r4, ← upd_self r3, ← upd_self r0]
  clear r106 r105 r104 r19 r11 r4 r3 r0
  have hintk : ∀ x ∈ seg.take k, ∃ y : Nat, x = (y : Int) := fun x hm => hint x (List.mem_of_mem_take hm)
  obtain ⟨pb, _, pf, pat, pc, pl⟩ := setPars_same (seg.take k) D0 (j : Int)
  have hgj : (D0.setPars (seg.take k) j).cells[j]? = D0.cells[j]? := by rw [setPars_get _ hintk, if_neg (fun hm => hj0 (List.mem_of_mem_take hm))]
  have hgp : (D0.setPars (seg.take k) j).cells[p]? = A.cells[p]? := by rw [setPars_get _ hintk, if_neg (fun hm => hp0 (List.mem_of_mem_take hm)), hD0p]
  by_cases hkc : k < c
  · obtain ⟨y, hy, hyl, _, _⟩ := hkid seg[k] (hsub _ (List.getElem_mem (by omega)))
    have hv : (seg.map vi)[0 + ((k : Nat) : Int).toNat * 1]? = some (vi y) := by
      rw [Nat.zero_add, Int.toNat_natCast, Nat.mul_one, List.getElem?_map, List.getElem?_eq_getElem (by omega), hy]; rfl
    have hsnoc : D0.setPars (seg.take (k + 1)) j = (D0.setPars (seg.take k) j).setPar y j := by
      rw [take1 seg k (by omega), setPars_snoc, hy, Int.toNat_natCast]
    have hrowk : ((D0.setPars (seg.take k) j).cells.map Cel.row)[j]? = some (sl 3 1 (.slice sa c sc) c (seg.map vi)) := by
      rw [List.getElem?_map, hgj, List.getElem?_eq_getElem hjD0, eD0, Option.map_some, Cel.row]
      show some (sl 3 1 (.slice sa c sc) seg.length (seg.map vi)) = _
      rw [hsegl]
    have hylD : y < (D0.setPars (seg.take k) j).cells.length := by rw [pl, hD0l]; exact Nat.lt_of_lt_of_le hyl hL.le
    have hhp := Ar.setPar_hp (D0.setPars (seg.take k) j) y j hylD
    rw [← hsnoc] at hhp
    have hb2 : (D0.setPars (seg.take (k + 1)) j).b = (D0.setPars (seg.take k) j).b := by rw [hsnoc]; rfl
    generalize D0.setPars (seg.take k) (j : Int) = Dk at *
    refine WC.rowOpen 5 j rfl hrowk fun sa2 sc2 e hsg => ?_
    injection e with e1 e2 e3
    subst e1; subst e3
    obtain ⟨g, rfl⟩ := hsg (by omega)
    refine WC.seq ?_
    refine WC.region ?_
    refine WL.val (Val.lss rfl rfl (decide_eq_true (by omega))) rfl ?_
    refine WL.nil ?_
    refine WX.thenC ?_
    refine WC.seq ?_
    refine WC.condT rfl ?_
    refine WC.skip ?_
    refine WX.thenC ?_
    refine WC.seq ?_
    refine WC.block ?_
    refine WC.seq ?_
    refine WC.region ?_
    refine WL.val (Val.indexAddr rfl rfl (by omega) (by omega)) rfl ?_
    refine WL.val (Val.loadS rfl (Rd.row1 5 j rfl hrowk hv)) rfl ?_
    refine WL.val (Val.assignI rfl) rfl ?_
    refine WL.nil ?_
    refine WX.thenC ?_
    refine WC.region ?_
    refine WL.val (Val.moveP rfl) rfl ?_
    refine WL.val (Val.nilCheckP rfl) rfl ?_
    refine WL.val (Val.fldAddr rfl) rfl ?_
    refine WL.val (Val.loadS rfl (Rd.own1 1 rfl rfl)) rfl ?_
    refine WL.val (Val.moveI rfl) rfl ?_
    refine WL.val (Val.moveI rfl) rfl ?_
    refine WL.val (Val.indexAddr rfl rfl (by omega) (by omega)) rfl ?_
    refine WL.val (Val.fldAddr rfl) rfl ?_
    refine WL.storeSl 2 rfl rfl rfl rfl (by show 0 + (y : Int).toNat * 4 + 2 + 1 ≤ Dk.cells.length * 4; rw [Int.toNat_natCast]; omega) ?_
    refine WL.nSet ?_
    refine WL.nil ?_
    refine WX.inNormal ?_
    refine WX.thenC ?_
    refine WC.region ?_
    refine WL.val (Val.add rfl rfl (wrap_i64 (by omega) (by omega))) rfl ?_
    refine WL.val (Val.moveI rfl) rfl ?_
    refine WL.nil ?_
    exact WX.thenK (WK.round (c - (k + 1)) (by omega) ⟨k + 1, rfl, by omega, rfl, by rw [hb2]; rfl, rfl, rfl, rfl, rfl, rfl, rfl, rfl, by rw [hhp]; rfl⟩)
  have hfull : seg.take k = seg := List.take_of_length_le (by omega)
  rw [hfull] at pb pf pat pc pl hgj hgp ⊢
  have hpD : p < (D0.setPars seg j).cells.length := by rw [pl, hD0l]; exact hpB
  have heD : (D0.setPars seg j).cells[p] = A.cells[p] := by
    rw [List.getElem?_eq_getElem hpD, List.getElem?_eq_getElem hpl] at hgp; injection hgp
  have hc3D := Ar.c3 hpD
  have hrowD := Ar.row hpD
  generalize hDD : D0.setPars seg (j : Int) = D at *
  have hklD : (D.cells[p]).kids.length = np.kids.length := by rw [heD]; exact hlk
  refine WC.seq ?_
  refine WC.region ?_
  refine WL.val (Val.lss rfl rfl (decide_eq_false (by omega))) rfl ?_
  refine WL.nil ?_
  refine WX.thenC ?_
  refine WC.seq ?_
  refine WC.condF rfl ?_
  refine WC.exit ?_
  refine WX.thenExit ?_
  refine WX.thenExit ?_
  refine WX.inHit ?_
  refine WX.thenC ?_
  refine WC.seq ?_
  refine WC.rowOpen 5 p rfl hrowD fun rb rd hkvD _ => ?_
  rw [hkvD] at hc3D hrowD
  refine WC.drawK 22 I' [1, 1] rfl (by kernel_rfl) rfl rfl ?_
  refine WA.take 0 rfl (by kernel_rfl) rfl (fun w h => (h.sub [1, 1] rfl)) (Val.moveP rfl) rfl ?_
  refine WA.take 1 rfl (by kernel_rfl) rfl (fun w h => (h.sub [1, 1] rfl)) (Val.nilCheckP rfl) rfl ?_
  refine WA.take 2 rfl (by kernel_rfl) rfl (fun w h => (h.sub [1, 1] rfl)) (Val.fldAddr rfl) rfl ?_
  refine WA.take 3 rfl (by kernel_rfl) rfl (fun w h => (h.sub [1, 1] rfl)) (Val.loadS rfl (Rd.own1 0 rfl rfl)) rfl ?_
  refine WA.take 4 rfl (by kernel_rfl) rfl (fun w h => (h.sub [1, 1] rfl)) (Val.moveI rfl) rfl ?_
  refine WA.take 5 rfl (by kernel_rfl) rfl (fun w h => (h.sub [1, 1] rfl)) (Val.moveP rfl) rfl ?_
  refine WA.take 6 rfl (by kernel_rfl) rfl (fun w h => (h.sub [1, 1] rfl)) (Val.nilCheckP rfl) rfl ?_
  refine WA.take 7 rfl (by kernel_rfl) rfl (fun w h => (h.sub [1, 1] rfl)) (Val.fldAddr rfl) rfl ?_
  refine WA.take 8 rfl (by kernel_rfl) rfl (fun w h => (h.sub [1, 1] rfl)) (Val.loadS rfl (Rd.own1 0 rfl rfl)) rfl ?_
  refine WA.take 9 rfl (by kernel_rfl) rfl (fun w h => (h.sub [1, 1] rfl)) (Val.moveI rfl) rfl ?_
  refine WA.take 10 rfl (by kernel_rfl) rfl (fun w h => (h.sub [1, 1] rfl)) (Val.indexAddr rfl rfl (by omega) (by omega)) rfl ?_
  refine WA.take 11 rfl (by kernel_rfl) rfl (fun w h => (h.sub [1, 1] rfl)) (Val.fldAddr rfl) rfl ?_
  first | refine WA.take 12 rfl (by kernel_rfl) rfl (fun w h => (h.sub [1, 1] rfl)) (Val.loadS rfl (Rd.sl1 1 rfl hc3D)) rfl ?_ | refine WA.takeGT 12 rfl (by kernel_rfl) rfl (fun w h => (h.sub [1, 1] rfl)) rfl rfl (Val.loadS rfl (Rd.sl1 1 rfl hc3D)) rfl ?_
  refine WA.take 13 rfl (by kernel_rfl) rfl (fun w h => (h.sub [1, 1] rfl)) (Val.moveI rfl) rfl ?_
  refine WA.take 14 rfl (by kernel_rfl) rfl (fun w h => (h.sub [1, 1] rfl)) (Val.moveI rfl) rfl ?_
  refine WA.take 15 rfl (by kernel_rfl) rfl (fun w h => (h.sub [1, 1] rfl)) (Val.moveI rfl) rfl ?_
  refine WA.take 16 rfl (by kernel_rfl) rfl (fun w h => (h.sub [1, 1] rfl)) (Val.add rfl rfl (wrap_i64 (by omega) (by omega))) rfl ?_
  refine WA.take 17 rfl (by kernel_rfl) rfl (fun w h => (h.sub [1, 1] rfl)) (Val.moveI rfl) rfl ?_
  refine WA.eff1 (i := 18) (by kernel_rfl) rfl rfl ?_
  (refine WL.buildSlice (by with_unfolding_all exact rfl) rfl (by with_unfolding_all exact rfl) rfl ?_; intro _)
  rename_i g8
  refine WL.nApp ?_
  refine WL.nil ?_
  refine WK.anyStep (fun w h => (h.sub [1, 1] rfl)) ?_
  refine WA.eff1 (i := 19) (by kernel_rfl) rfl rfl ?_
  rw [eac]
  refine WL.rowTake 5 p rfl hrowD ?_
  refine WL.boxSl (xs := [vi (j : Int)]) (n := 1) (sz := 1) 7 rfl rfl (by decide) ?_
  refine WL.callP [0, 6] rfl rfl (sReplace (D.cells[p]).kids [(j : Int)] a (a + c) (.slice rb (D.cells[p]).kids.length rd) (.slice (some ⟨g8, 0, none⟩) 1 1) _ (by omega) (by omega) (fun _ => Nat.zero_lt_one) (by rw [hklD]; simp only [List.length_singleton]; omega)) rfl ?_
  rintro rv _ _ hI5 ⟨rfl, rfl⟩
  refine WL.nApp ?_
  have hlen : ((D.cells[p]).kids.take a ++ [(j : Int)] ++ (D.cells[p]).kids.drop (a + c)).length = a + [(j : Int)].length + ((D.cells[p]).kids.length - (a + c)) := by
    simp only [List.length_append, List.length_take, List.length_drop]; omega
  rw [← hlen]
  refine WL.conv (fun w h => h.sub [6, 0, 0, 0, 0, 0, 0] rfl) ?_
  refine WL.rowPut 5 p rfl (by simpa using hpD) ?_
  refine WL.nSet ?_
  refine WL.rowOpen 5 p rfl (List.getElem?_set_self (by simpa using hpD)) fun ra2 rc2 hr _ => ?_
  subst hr
  refine WL.nil ?_
  refine WK.anyStep (fun w h => (h.sub [1, 1] rfl)) ?_
  refine WA.eff1 (i := 20) (by kernel_rfl) rfl rfl ?_
  refine WL.val (Val.indexAddr rfl rfl (by omega) (by omega)) rfl ?_
  refine WL.nil ?_
  refine WK.anyStep (fun w h => (h.sub [1, 1] rfl)) ?_
  refine WA.eff1 (i := 21) (by kernel_rfl) rfl rfl ?_
  refine WL.val (Val.fldAddr rfl) rfl ?_
  refine WL.nil ?_
  refine WK.anyStep (fun w h => (h.sub [1, 1] rfl)) ?_
  refine WA.eff1 (i := 22) (by kernel_rfl) rfl rfl ?_
  refine WL.storeSl 2 rfl rfl rfl rfl (by show 0 + (p : Int).toNat * 4 + 3 + 1 ≤ D.cells.length * 4; rw [Int.toNat_natCast]; omega) ?_
  refine WL.nSet ?_
  refine WL.nil ?_
  refine WK.anyLast ?_
  refine WA.done (by kernel_rfl) ?_
  refine WX.thenC ?_
  refine WC.seq ?_
  refine WC.region ?_
  refine WL.val (Val.assignI rfl) rfl ?_
  refine WL.nil ?_
  refine WX.thenC ?_
  refine WC.ret ?_
  apply WX.doneP (ks := [0, 0, 0, 0, 0])
  case hres => exact RunRes.r1 rfl (ResIs.tmpI rfl)
  case hI => first | exact Mem.le.refl _ | assumption
  have hAbs := hw3 (.slice ra2 ((D.cells[p]).kids.take a ++ [(j : Int)] ++ (D.cells[p]).kids.drop (a + c)).length rc2)
  rw [← heD, hnp] at hAbs
  refine ⟨rfl, _, ?_, ?_, hAbs⟩
  · exact pb.trans (hD0b.trans hbB)
  · rw [Ar.setKids_hp D p _ _ hpD]; rfl
end Go.Proofs.YtggcpoleklcmkaaGreatDoor

/-
  Tree, the plain law (8): what is unwrapped.
-/

namespace Go.Sl
open Go.Ls
end Go.Sl
namespace Go.Tr
open Go.Sl Go.Ls
set_option linter.unusedVariables false
set_option linter.unusedSimpArgs false
section
variable {A : Ar} {top : Nd}
/-- A group is unwrapped. -/
theorem Abs.unwrap (h : Abs A top) {i y k : Nat} {yp : Int} {ny n : Nd} {R : List Nat} {RO : List Int} (hl : Lies A i y k) (f : Foc A (-1) 0 top y yp ny R RO) (hk : k < ny.kids.length) (hn : ny.kids[k] = n) (ht : Tr A (y : Int) i n) (hi0 : i ≠ 0)
    {C : Ar} (hiA : i < A.cells.length) (hyA : y < A.cells.length) (kv : Value) (hlen : C.cells.length = A.cells.length) (hfree : C.free = A.free ++ [(i : Int)]) (hat : ∀ x, C.at_ x = if x = n.id then none else A.at_ x) (hcnt : C.cnt + 1 = A.cnt)
    (hCi : C.cells[i]? = some zeroCel) (hCk : ∀ x : Nat, (x : Int) ∈ (A.cells[i]).kids → C.cells[x]? = (A.cells[x]?).map (fun x => { x with par := (y : Int) }))
    (hCy : C.cells[y]? = some { A.cells[y] with kids := (A.cells[y]).kids.take k ++ (A.cells[i]).kids ++ (A.cells[y]).kids.drop (k + 1), kv := kv })
    (hCo : ∀ j : Nat, j ≠ i → j ≠ y → (j : Int) ∉ (A.cells[i]).kids → C.cells[j]? = A.cells[j]?) : Abs C (Nd.with_ ny.id (ny.kids.take k ++ (n.kids ++ ny.kids.drop (k + 1))) top) := by
  have hpn := h.pnd
  obtain ⟨_, hpy, hps, hyp⟩ := f.posts_dis hpn
  obtain ⟨_, _, _, e2, e3⟩ := hl
  obtain ⟨_, hid, hgr, hpar, hks⟩ := f.tr.ex
  obtain ⟨_, hidn, _, _, hkn⟩ := ht.ex
  obtain ⟨_, hpi⟩ := post_eq ht
  have hkk : k < (A.cells[y]).kids.length := by rw [hks.len]; exact hk
  have hki : (A.cells[y]).kids[k] = (i : Int) := by
    rw [List.getElem?_eq_getElem hkk] at e2; injection e2
  obtain ⟨s1, s2, s3⟩ := Trs.split k hks
  rw [drop_eq hkk, drop_eq hk, hki, hn] at s2 s3
  rw [posts_cons, hpi] at s3
  have s2' : Trs A (y : Int) ((A.cells[y]).kids.drop (k + 1)) (ny.kids.drop (k + 1)) := by rw [Trs] at s2; exact s2.2
  rw [s3] at hps hyp
  have hin : ∀ j ∈ posts A ((A.cells[y]).kids.take k) (ny.kids.take k) ++ (posts A (A.cells[i]).kids n.kids ++ [i] ++ posts A ((A.cells[y]).kids.drop (k + 1)) (ny.kids.drop (k + 1))), j ∈ post A 0 top := fun j hj => f.mem (by rw [hpy, s3]; exact List.mem_append.2 (.inl hj))
  obtain ⟨n1, n23, n1d⟩ := List.nodup_append.1 hps
  obtain ⟨n2i, n3, n2d⟩ := List.nodup_append.1 n23
  obtain ⟨n2, _, nid⟩ := List.nodup_append.1 n2i
  have m1 : ∀ j ∈ posts A ((A.cells[y]).kids.take k) (ny.kids.take k), j ∈ posts A ((A.cells[y]).kids.take k) (ny.kids.take k) ++ (posts A (A.cells[i]).kids n.kids ++ [i] ++ posts A ((A.cells[y]).kids.drop (k + 1)) (ny.kids.drop (k + 1))) := fun j hj => List.mem_append.2 (.inl hj)
  have m2 : ∀ j ∈ posts A (A.cells[i]).kids n.kids ++ [i], j ∈ posts A ((A.cells[y]).kids.take k) (ny.kids.take k) ++ (posts A (A.cells[i]).kids n.kids ++ [i] ++ posts A ((A.cells[y]).kids.drop (k + 1)) (ny.kids.drop (k + 1))) := fun j hj => List.mem_append.2 (.inr (List.mem_append.2 (.inl hj)))
  have m3 : ∀ j ∈ posts A ((A.cells[y]).kids.drop (k + 1)) (ny.kids.drop (k + 1)), j ∈ posts A ((A.cells[y]).kids.take k) (ny.kids.take k) ++ (posts A (A.cells[i]).kids n.kids ++ [i] ++ posts A ((A.cells[y]).kids.drop (k + 1)) (ny.kids.drop (k + 1))) := fun j hj => List.mem_append.2 (.inr (List.mem_append.2 (.inr hj)))
  have hmi : i ∈ posts A (A.cells[i]).kids n.kids ++ [i] := List.mem_append.2 (.inr (List.mem_singleton.2 rfl))
  have hroot : ∀ j : Nat, (j : Int) ∈ (A.cells[i]).kids → j ∈ posts A (A.cells[i]).kids n.kids ++ [i] := fun j hj => List.mem_append.2 (.inl (mem_l hkn hj))
  have hne : ∀ j ∈ posts A ((A.cells[y]).kids.take k) (ny.kids.take k) ++ (posts A (A.cells[i]).kids n.kids ++ [i] ++ posts A ((A.cells[y]).kids.drop (k + 1)) (ny.kids.drop (k + 1))), j ≠ y := fun j hj e => hyp (e ▸ hj)
  have hiy : i ≠ y := hne i (m2 i hmi)
  obtain ⟨t1, u1⟩ := Trs.keep (A' := C) _ _ s1 (fun j hj => hCo j (fun e => n1d j hj i (List.mem_append.2 (.inl hmi)) e) (hne j (m1 j hj)) (fun hm => n1d j hj j (List.mem_append.2 (.inl (hroot j hm))) rfl))
  obtain ⟨t3, u3⟩ := Trs.keep (A' := C) _ _ s2' (fun j hj => hCo j (fun e => n2d i hmi j hj e.symm) (hne j (m3 j hj)) (fun hm => n2d j (hroot j hm) j hj rfl))
  obtain ⟨t2, u2⟩ := Trs.repar (C := C) (p' := (y : Int)) hkn n2 hCk (fun j hj hno => hCo j (fun e => nid j hj i (List.mem_singleton.2 rfl) e) (hne j (m2 j (List.mem_append.2 (.inl hj)))) hno)
  have hyC : y < C.cells.length := by rw [hlen]; exact hyA
  have eC : C.cells[y] = { A.cells[y] with kids := (A.cells[y]).kids.take k ++ (A.cells[i]).kids ++ (A.cells[y]).kids.drop (k + 1), kv := kv } := by
    rw [List.getElem?_eq_getElem hyC] at hCy; injection hCy
  have htq : Tr C yp y (.mk ny.id ny.grp (ny.kids.take k ++ (n.kids ++ ny.kids.drop (k + 1)))) := by
    refine Tr.mk hyC (by rw [eC]; exact hid) (by rw [eC]; exact hgr) (by rw [eC]; exact hpar) ?_
    rw [eC]
    show Trs C (y : Int) ((A.cells[y]).kids.take k ++ (A.cells[i]).kids ++ (A.cells[y]).kids.drop (k + 1)) (ny.kids.take k ++ (n.kids ++ ny.kids.drop (k + 1)))
    rw [List.append_assoc]
    exact t1.app (t2.app t3)
  have hpq' : post C y (.mk ny.id ny.grp (ny.kids.take k ++ (n.kids ++ ny.kids.drop (k + 1)))) = posts A ((A.cells[y]).kids.take k) (ny.kids.take k) ++ (posts A (A.cells[i]).kids n.kids ++ posts A ((A.cells[y]).kids.drop (k + 1)) (ny.kids.drop (k + 1))) ++ [y] := by
    rw [(post_eq htq).2, eC]
    show posts C ((A.cells[y]).kids.take k ++ (A.cells[i]).kids ++ (A.cells[y]).kids.drop (k + 1)) (ny.kids.take k ++ (n.kids ++ ny.kids.drop (k + 1))) ++ [y] = _
    rw [List.append_assoc, posts_app C _ _ s1.len, u1, posts_app C _ _ hkn.len, u2, u3]
  have hmy : ∀ j ∈ posts A (A.cells[i]).kids n.kids ++ [i], j ∈ post A y ny := fun j hj => by rw [hpy, s3]; exact List.mem_append.2 (.inl (m2 j hj))
  obtain ⟨htr0, hperm0⟩ := f.with_ C (.mk ny.id ny.grp (ny.kids.take k ++ (n.kids ++ ny.kids.drop (k + 1)))) rfl rfl htq (fun j hj => hCo j (fun e => f.dis hpn (hmy i hmi) (e ▸ hj)) (fun e => f.notR hpn (e ▸ hj)) (fun hm => f.dis hpn (hmy j (hroot j hm)) hj))
  have htr : Tr C (-1) 0 (Nd.with_ ny.id (ny.kids.take k ++ (n.kids ++ ny.kids.drop (k + 1))) top) := htr0
  have hperm : (post C 0 (Nd.with_ ny.id (ny.kids.take k ++ (n.kids ++ ny.kids.drop (k + 1))) top)).Perm (post C y (.mk ny.id ny.grp (ny.kids.take k ++ (n.kids ++ ny.kids.drop (k + 1)))) ++ R) := hperm0
  have hord : (Nd.with_ ny.id (ny.kids.take k ++ (n.kids ++ ny.kids.drop (k + 1))) top).order.Perm ((Nd.mk ny.id ny.grp (ny.kids.take k ++ (n.kids ++ ny.kids.drop (k + 1)))).order ++ RO) := f.order' (.mk ny.id ny.grp (ny.kids.take k ++ (n.kids ++ ny.kids.drop (k + 1)))) rfl rfl
  have hwid := with_id ny.id (ny.kids.take k ++ (n.kids ++ ny.kids.drop (k + 1))) top
  generalize Nd.with_ ny.id (ny.kids.take k ++ (n.kids ++ ny.kids.drop (k + 1))) top = top2 at *
  have hP : (post C 0 top2 ++ [i]).Perm (post A 0 top) := by
    refine (hperm.append_right _).trans (List.Perm.trans ?_ f.perm.symm)
    rw [hpq', hpy, s3]
    refine (perm_mid _ _ _).trans (List.Perm.append_right _ ?_)
    simp only [List.append_assoc]
    refine List.Perm.append_left _ (List.Perm.append_left _ ?_)
    rw [← List.append_assoc, ← List.append_assoc]
    exact List.perm_append_comm.trans (by rw [List.append_assoc])
  have hO : (top2.order ++ [n.id]).Perm top.order := by
    refine (hord.append_right _).trans (List.Perm.trans ?_ f.order.symm)
    refine (perm_mid _ _ _).trans (List.Perm.append_right _ ?_)
    have : Nd.orders ny.kids = Nd.orders (ny.kids.take k) ++ (n.order ++ Nd.orders (ny.kids.drop (k + 1))) := by
      rw [← hn]
      show _ = Nd.orders (ny.kids.take k) ++ Nd.orders (ny.kids[k] :: ny.kids.drop (k + 1))
      rw [← drop_eq hk, ← Nd.orders_app, List.take_append_drop]
    rw [Nd.order, Nd.orders_app, Nd.orders_app, Nd.order_eq ny, this, Nd.order_eq n, List.cons_append]
    refine List.Perm.cons _ ?_
    simp only [List.append_assoc, List.cons_append]
    refine List.Perm.append_left _ ?_
    rw [← List.append_assoc]
    exact List.perm_append_comm (l₂ := [n.id])
  have hS : top2.size + 1 = top.size := by
    have := hO.length_eq
    rwa [List.length_append, Nd.order_len, Nd.order_len, List.length_singleton] at this
  have hPn := hP.nodup_iff.2 h.pnd
  have hOn := hO.nodup_iff.2 h.od
  have hmem : ∀ j ∈ post C 0 top2, j ∈ post A 0 top ∧ j ≠ i := fun j hj => ⟨hP.mem_iff.1 (List.mem_append.2 (.inl hj)), fun e => dis_of_nodup hPn hj (by rw [e]; exact List.mem_singleton.2 rfl)⟩
  have hyi : y ∈ post A 0 top := f.mem (self_post A y ny)
  have hii : i ∈ post A 0 top := hin i (m2 i hmi)
  have hCid : ∀ j ∈ post A 0 top, j ≠ i → C.idAt j = A.idAt j := fun j hj hji => by
    by_cases hjy : j = y
    · subst hjy
      rw [Ar.idAt, Ar.idAt, hCy, List.getElem?_eq_getElem hyA]; rfl
    · by_cases hjs : (j : Int) ∈ (A.cells[i]).kids
      · rw [Ar.idAt, Ar.idAt, hCk j hjs]
        cases A.cells[j]? <;> rfl
      · exact Ar.idAt_congr (hCo j hji hjy hjs)
  have hnid : A.idAt i = n.id := ht.idAt
  refine Abs.of htr (List.nodup_append.1 hOn).1 ?_ ?_ ?_ (by rw [hlen]; exact h.cap) ?_ ?_ ?_ (hwid.1.trans h.id0) (hwid.2.trans h.g0) ?_ ?_
  · rw [hfree, List.map_append, List.map_singleton, Int.toNat_natCast]
    have e : (post C 0 top2 ++ (A.free.map Int.toNat ++ [i])).Perm (post A 0 top ++ A.free.map Int.toNat) := by
      refine List.Perm.trans ?_ (hP.append_right _)
      rw [List.append_assoc]
      exact List.Perm.append_left _ List.perm_append_comm
    exact e.nodup_iff.2 h.nd
  · rw [hlen, hfree]
    intro x hx
    rcases List.mem_append.1 hx with hx | hx
    · exact h.frb x hx
    · exact ⟨i, List.mem_singleton.1 hx, hiA⟩
  · rw [hlen, hfree, List.length_append, List.length_singleton]
    have := h.len
    omega
  · intro j hj
    obtain ⟨h1, h2⟩ := hmem j hj
    rw [hCid j h1 h2, hat, if_neg, h.at_ j h1]
    intro e
    rw [← hnid] at e
    exact h2 (h.tr.inj h.od h1 hii e)
  · intro x hx
    rw [hat]
    by_cases hxn : x = n.id
    · rw [if_pos hxn]
    · rw [if_neg hxn]
      refine h.atn x fun hm => ?_
      rcases List.mem_append.1 (hO.mem_iff.2 hm) with e | e
      · exact hx e
      · exact hxn (List.mem_singleton.1 e)
  · have := h.cnt
    omega
  · exact fun x hx => h.i64 x (hO.mem_iff.1 (List.mem_append.2 (.inl hx)))
  · intro j cc hj hnj
    by_cases hji : j = i
    · rw [hji, hCi] at hj
      injection hj with hj
      subst hj
      exact CelOk.zero
    · have hjA : j ∉ post A 0 top := fun e => by
        rcases List.mem_append.1 (hP.mem_iff.2 e) with e | e
        · exact hnj e
        · exact hji (List.mem_singleton.1 e)
      rw [hCo j hji (fun e => hjA (e ▸ hyi)) (fun hm => hjA (hin j (m2 j (hroot j hm))))] at hj
      exact h.cel hj
end
end Go.Tr

/-
  Tree, the program's: Unwrap.
-/

namespace Go.Tr
open Go.Sl Go.Ls
end Go.Tr
namespace Go.Proofs.YtggcpoleklcmkaaGreatDoor
open Go.Sl Go.Ls Go.Tr
set_option maxRecDepth 100000
set_option maxHeartbeats 8000000
set_option linter.unusedVariables false
set_option linter.unusedSimpArgs false
attribute [local irreducible] WC WL WX WK WA WAK Val Ctr RunRes ResIs Rd At sl box pt Exit.then Exit.inBlock bodyPost Code.wp wpList
end Go.Proofs.YtggcpoleklcmkaaGreatDoor
