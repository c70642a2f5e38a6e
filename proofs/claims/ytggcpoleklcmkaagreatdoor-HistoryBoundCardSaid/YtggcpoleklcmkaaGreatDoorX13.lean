/-
 Histories: steps on stacks; slices.Reverse, slices.Delete. -- KS14
-/
import Derived.Test.YtggcpoleklcmkaaGreatDoorX2
import Derived.Test.YtggcpoleklcmkaaGreatDoorX12
import Derived.Test.YtggcpoleklcmkaaGreatDoorX3
import Derived.Test.YtggcpoleklcmkaaGreatDoorX10
set_option linter.unusedVariables false
set_option linter.unusedSimpArgs false
set_option maxRecDepth 100000
set_option maxHeartbeats 8000000
namespace Go.Sl
open Go.Ls
section
variable {Γ : Cx} {ops : Array Oper} {rest : List Oper} {ρ : Nat → Value} {I : Mem} {L : List HP} {Q : Post} {ty : TypeId} {ps : String} {af : Array Edge}
theorem WL.storeRow {t e sz n cap g : Nat} {ag : Bool} {x y : Operand} {css : List (List Value)} {cs : List Value} (k i : Nat) [hk : TyK Γ.P t ag sz] (hL : L[k]? = some (sl e sz (.slice (some ⟨g, 0, none⟩) n cap) n css.flatten))
  (hx : ev ρ x = .pointer (some ⟨g, 0 + (i : Int).toNat * sz, none⟩)) (hy : ev ρ y = .agg cs.toArray) (hz : ∀ c ∈ css, c.length = sz) (hcs : cs.length = sz) (h1 : cs.all Value.oneCell' = true) (hi : i < css.length) (hn : css.length = n) (h0 : 0 < sz)
  (next : WL Γ ops rest ρ I (L.set k (sl e sz (.slice (some ⟨g, 0, none⟩) n cap) n (css.set i cs).flatten)) Q) : WL Γ ops ({ dst := none, op := .store t x y, type := ty, pos := ps, after := af, guard := none } :: rest) ρ I L Q := by
 have hle : i * sz + sz ≤ n * sz := by rw [← Nat.succ_mul, ← hn]; exact Nat.mul_le_mul_right _ hi
 have e1 : (ev ρ y).cells.toList = cs := by rw [hy]; rfl
 refine WL.storeSl k hx hL (by rw [e1]; exact hcs) (by rw [e1]; exact h1) (by rw [e1, Nat.zero_add, Int.toNat_natCast, hcs]; exact hle) ?_
 rw [e1, Nat.zero_add, Int.toNat_natCast]
 have e2 := flat_splice h0 css hz i 0 cs hi (by omega)
 rw [Nat.add_zero] at e2
 rw [e2]
 have e3 : splice css[i] 0 cs = cs := by
  unfold splice
  rw [List.take_zero, List.nil_append, List.drop_eq_nil_of_le (by rw [hz _ (List.getElem_mem hi)]; omega), List.append_nil]
 rw [e3]
 exact next
end
theorem flat_row {sz : Nat} (h0 : 0 < sz) {ds : List (List Value)} (hz : ∀ c ∈ ds, c.length = sz) (k : Nat) (hk : k < ds.length) : ∀ q u, (ds[k])[q]? = some u → ds.flatten[0 + (k : Int).toNat * sz + q]? = some u := by
 intro q u h
 have hq := (List.getElem?_eq_some_iff.1 h).1
 rw [hz _ (List.getElem_mem hk)] at hq
 rw [Nat.zero_add, Int.toNat_natCast, flat_at h0 ds hz k q hq, List.getElem?_eq_getElem hk]
 exact h
end Go.Sl
namespace Go.Hi
open Go.Sl Go.Ls Go.Tr Go.Dc
structure RevTo (css ds : List (List Value)) (i : Nat) : Prop where
 len : ds.length = css.length
 at_ : ∀ q, q < css.length → ds[q]? = if q < i ∨ css.length - 1 - i < q then css[css.length - 1 - q]? else css[q]?
theorem RevTo.mem {css ds : List (List Value)} {i : Nat} (h : RevTo css ds i) : ∀ c ∈ ds, c ∈ css := fun c hc => by
 obtain ⟨q, hq, rfl⟩ := List.getElem_of_mem hc
 have hl := h.len
 have h1 := h.at_ q (by omega)
 rw [List.getElem?_eq_getElem hq] at h1
 split at h1
 ·exact List.mem_of_getElem? h1.symm
 ·exact List.mem_of_getElem? h1.symm
theorem RevTo.step {css ds : List (List Value)} {i j : Nat} (h : RevTo css ds i) (hj : j = css.length - 1 - i) (hij : i < j) (hi : i < ds.length) (hjl : j < ds.length) : RevTo css ((ds.set i ds[j]).set j ds[i]) (i + 1) := by
 have hl := h.len
 refine ⟨by rw [List.length_set, List.length_set, hl], fun q hq => ?_⟩
 have hi' := h.at_ i (by omega)
 have hj' := h.at_ j (by omega)
 rw [if_neg (by omega), List.getElem?_eq_getElem hi] at hi'
 rw [if_neg (by omega), List.getElem?_eq_getElem hjl] at hj'
 rw [List.getElem?_set, List.length_set, List.getElem?_set]
 by_cases h1 : j = q
 ·subst h1
  rw [if_pos rfl, if_pos hjl, if_pos (.inr (by omega)), hi']
  congr 1; omega
 rw [if_neg h1]
 by_cases h2 : i = q
 ·subst h2
  rw [if_pos rfl, if_pos hi, if_pos (.inl (by omega)), hj']
  congr 1
 rw [if_neg h2, h.at_ q hq]
 by_cases h3 : q < i ∨ css.length - 1 - i < q
 ·rw [if_pos h3, if_pos (by omega)]
 ·rw [if_neg h3, if_neg (by omega)]
theorem RevTo.done {css ds : List (List Value)} {i j : Nat} (h : RevTo css ds i) (hij : css.length ≤ i + i + 1) : ds = css.reverse := by
 have hl := h.len
 apply List.ext_getElem?
 intro q
 by_cases hq : q < css.length
 ·rw [List.getElem?_reverse hq, h.at_ q hq]
  by_cases h3 : q < i ∨ css.length - 1 - i < q
  ·rw [if_pos h3]
  ·rw [if_neg h3]; congr 1; omega
 ·rw [List.getElem?_eq_none (by omega), List.getElem?_eq_none (by rw [List.length_reverse]; omega)]
theorem All2.rev {α β : Type} {R : α → β → Prop} {l : List α} {r : List β} (h : All2 R l r) : All2 R l.reverse r.reverse := by
 induction l generalizing r with
 | nil => cases r with
  | nil => exact h
  | cons _ _ => exact h.elim
 | cons a l ih => cases r with
  | nil => exact h.elim
  | cons b r =>
   rw [List.reverse_cons, List.reverse_cons]
   exact (ih h.2).snoc h.1
def Step.rep : Rep (List Cm) := fun I s cs => ∃ v, cs = [v] ∧ LsAt Cm.rep I s v
instance : RepMono Step.rep := ⟨fun h hI => by
 obtain ⟨v, h1, h2⟩ := h
 exact ⟨v, h1, h2.mono hI⟩⟩
def keep {α : Type} (n : Nat) (l : List α) : List α := l.drop (l.length - n)
theorem one_flat {I : Mem} : ∀ {l : List (List Cm)} {css : List (List Value)}, All2 (Step.rep I) l css → css.flatten.length = l.length ∧ css.flatten.all Value.oneCell' = true ∧ ∀ n, (css.drop n).flatten = css.flatten.drop n
 | [], [], _ => ⟨rfl, rfl, fun n => by simp⟩
 | a :: l, c :: css, h => by
  obtain ⟨⟨v, rfl, hv⟩, h2⟩ := h
  obtain ⟨a, k, rfl⟩ := hv.sl
  obtain ⟨e1, e2, e3⟩ := one_flat h2
  refine ⟨by simp [e1], by rw [List.flatten_cons, List.all_append, e2]; rfl, fun n => ?_⟩
  cases n with
  | zero => rfl
  | succ n => rw [List.drop_succ_cons, e3 n]; rfl
theorem All2.drop {α β : Type} {R : α → β → Prop} : ∀ (n : Nat) {l : List α} {r : List β}, All2 R l r → All2 R (l.drop n) (r.drop n)
 | 0, _, _, h => h
 | n + 1, [], [], h => h
 | n + 1, _ :: _, _ :: _, h => All2.drop n h.2
end Go.Hi
namespace Go.Proofs.YtggcpoleklcmkaaGreatDoor
open Go.Sl Go.Ls Go.Tr Go.Dc Go.Hi
attribute [local irreducible] WC WL WX WK WA WAK Val Ctr RunRes ResIs Rd At sl box pt Exit.then Exit.inBlock bodyPost Code.wp wpList
theorem sRev (css : List (List Value)) (m : Nat) (hm : css.length = m) (hz : ∀ c ∈ css, c.length = 51) (h1 : ∀ c ∈ css, c.all Value.oneCell' = true) (hn : m ≤ 1000000) (v : Value) (I : Mem) :
  Ctr Tryz.prog 122 [v] I [sl 59 51 v m css.flatten] (fun _ I' L' => I' = I ∧ L' = [sl 59 51 v m css.reverse.flatten]) := by
 subst hm
 refine Ctr.intro Tryz.func122 rfl rfl rfl fun E F => ?_
 refine WC.slOpen 1 rfl fun sa sc hs hsg hsc => ?_
 subst hs
 refine jS (jc rfl (jm (jo rfl) (jm (Val.sub rfl rfl (wrap_i64 (by omega) (by omega))) ?_)))
 refine jf rfl (jf rfl (jM (WC.block ?_)))
 refine WC.loop (fun n ρ' I' L' => ∃ (i : Nat) (ds : List (List Value)), n = css.length - i ∧ i ≤ css.length ∧ I' = I ∧ ρ' 0 = .slice sa css.length sc ∧ ρ' 2 = vi i ∧ ρ' 3 = vi ((css.length : Int) - 1 - i) ∧ L' = [F, sl 59 51 (.slice sa css.length sc) css.length ds.flatten] ∧ RevTo css ds i)
  css.length ⟨0, css, rfl, Nat.zero_le _, rfl, rfl, rfl, by show vi _ = vi _; congr 1; omega, rfl, rfl, fun q hq => by rw [if_neg (by omega)]⟩ ?_
 rintro n ρ' I2 L' ⟨i, ds, rfl, hi, rfl, r0, r2, r3, rfl, hR⟩
 refine ju3 r3 r2 r0 ?_
 have hl := hR.len
 by_cases hij : css.length ≤ i + i + 1
 ·skip
  refine jB (jS (ja rfl (ja rfl (jx rfl rfl (jM (jE (WC.exit (WX.thenExit (WX.thenExit (WX.inHit ?_))))))))))
  apply WX.doneN (ks := [0])
  case hres => exact RunRes.r0 rfl
  case hp => rfl
  case hI => first | exact Mem.le.refl _ | assumption
  exact ⟨rfl, by rw [hR.done (j := 0) hij]⟩
 obtain ⟨g, rfl⟩ := hsg (by omega)
 have hdz : ∀ c ∈ ds, c.length = 51 := fun c hc => hz c (hR.mem c hc)
 have hd1 : ∀ c ∈ ds, c.all Value.oneCell' = true := fun c hc => h1 c (hR.mem c hc)
 obtain ⟨j, hj⟩ : ∃ j, j = css.length - 1 - i := ⟨_, rfl⟩
 have hji : ((css.length : Int) - 1 - i) = (j : Int) := by omega
 rw [hji]
 have hil : i < ds.length := by omega
 have hjl : j < ds.length := by omega
 refine jB (jS (ja rfl (ja rfl (jy rfl rfl (jM (jF (jV (jA (jB (WC.block ?_))))))))))
 have hsz : ∀ c ∈ ds.set i ds[j], c.length = 51 := fun c hc => by
  rcases List.mem_or_eq_of_mem_set hc with hc | rfl
  ·exact hdz c hc
  ·exact hdz _ (List.getElem_mem hjl)
 refine j8 999 [] rfl (jT 0 rfl (Val.moveS rfl) (jT 1 rfl (Val.moveI rfl) (jT 2 rfl (Val.moveS rfl) (jT 3 rfl (Val.moveI rfl) (jT 4 rfl (Val.moveS rfl) (jT 5 rfl (Val.moveI rfl) (jT 6 rfl (jZ rfl rfl) (jT 8 rfl (Val.moveS rfl) (jT 9 rfl (Val.moveI rfl) (jT 10 rfl (jZ rfl rfl) ?_))))))))))
 refine jee 7 11 rfl rfl ?_ ?_
 ·refine WL.val (Val.loadA rfl (Rd.slN 1 rfl _ _ (flat_row (by decide) hdz j hjl)) (hdz _ (List.getElem_mem hjl))) rfl ?_
  refine jC (j7 [] rfl (j5 11 rfl (jm (Val.loadA rfl (Rd.slN 1 rfl _ _ (flat_row (by decide) hdz i hil)) (hdz _ (List.getElem_mem hil))) ?_)))
  refine jC (j7 [] rfl (jT 12 rfl (jZ rfl rfl) (j5 13 rfl (WL.storeRow (css := ds) 1 i rfl rfl rfl hdz (hdz _ (List.getElem_mem hjl)) (hd1 _ (List.getElem_mem hjl)) hil hl (by decide) ?_))))
  refine WL.nSet ?_
  refine jC (j7 [] rfl (jT 14 rfl (jZ rfl rfl) (j5 15 rfl (WL.storeRow (css := ds.set i ds[j]) 1 j rfl rfl rfl hsz (hdz _ (List.getElem_mem hil)) (hd1 _ (List.getElem_mem hil)) (by rw [List.length_set]; exact hjl) (by rw [List.length_set]; exact hl) (by decide) ?_))))
  refine WL.nSet ?_
  refine jC (j7 [] rfl (j6 (WX.inNormal (jA (jD (ja rfl (jX rfl rfl (ja rfl (jm (Val.sub rfl rfl (wrap_i64 (by omega) (by omega))) ?_)))))))))
  exact jf rfl (jf rfl (jC (WX.thenK (WK.round (css.length - (i + 1)) (by omega) ⟨i + 1, _, rfl, by omega, rfl, rfl, rfl, by show vi _ = vi _; congr 1; omega, rfl, hR.step hj (by omega) hil hjl⟩))))
 ·refine WL.val (Val.loadA rfl (Rd.slN 1 rfl _ _ (flat_row (by decide) hdz i hil)) (hdz _ (List.getElem_mem hil))) rfl ?_
  refine jC (j7 [] rfl (j5 7 rfl (jm (Val.loadA rfl (Rd.slN 1 rfl _ _ (flat_row (by decide) hdz j hjl)) (hdz _ (List.getElem_mem hjl))) ?_)))
  refine jC (j7 [] rfl (jT 12 rfl (jZ rfl rfl) (j5 13 rfl (WL.storeRow (css := ds) 1 i rfl rfl rfl hdz (hdz _ (List.getElem_mem hjl)) (hd1 _ (List.getElem_mem hjl)) hil hl (by decide) ?_))))
  refine WL.nSet ?_
  refine jC (j7 [] rfl (jT 14 rfl (jZ rfl rfl) (j5 15 rfl (WL.storeRow (css := ds.set i ds[j]) 1 j rfl rfl rfl hsz (hdz _ (List.getElem_mem hil)) (hd1 _ (List.getElem_mem hil)) (by rw [List.length_set]; exact hjl) (by rw [List.length_set]; exact hl) (by decide) ?_))))
  refine WL.nSet ?_
  refine jC (j7 [] rfl (j6 (WX.inNormal (jA (jD (ja rfl (jX rfl rfl (ja rfl (jm (Val.sub rfl rfl (wrap_i64 (by omega) (by omega))) ?_)))))))))
  exact jf rfl (jf rfl (jC (WX.thenK (WK.round (css.length - (i + 1)) (by omega) ⟨i + 1, _, rfl, by omega, rfl, rfl, rfl, by show vi _ = vi _; congr 1; omega, rfl, hR.step hj (by omega) hil hjl⟩))))
theorem sDel (xs : List Value) (n j : Nat) (hn : xs.length = n) (s : Value) (I : Mem) (hall : xs.all Value.oneCell' = true) (h0 : 0 < j) (hj : j ≤ n) (hl : n ≤ 1000000) :
  Ctr Tryz.prog 123 [s, vi 0, vi j] I [sl 154 1 s n xs]
   (fun r I' L' => I' = I ∧ L' = [sl 154 1 r (n - j) (xs.drop j)]) := by
 subst hn
 refine Ctr.intro Tryz.func123 rfl rfl rfl fun E F => ?_
 refine WC.slOpen 1 rfl fun sa sc hs hsg hsc => ?_
 subst hs
 obtain ⟨sg, rfl⟩ := hsg (by omega)
 refine jS (jh rfl (jN (jc rfl (ja rfl (ja rfl (jc rfl (jm (jo rfl) (jm (Val.slice3L (l := 0) (h := j) (m := xs.length) rfl rfl rfl rfl (by omega) (by omega) (by omega)) ?_))))))))
 refine WL.slOut 1 rfl fun cs k1 k2 k3 k4 => ?_
 refine WL.nSet ?_
 have hcs : ∀ q u, xs[q]? = some u → cs[q]? = some u := fun q u h => by
  rw [← k2, List.getElem?_take] at h
  split at h
  ·exact h
  ·cases h
 have hml : (xs.drop j).length = xs.length - j := List.length_drop
 refine jM (jB (jS (ja rfl (ja rfl (jv rfl rfl (jM (jE (jV (jK (jc rfl (jm (jo rfl) (jf rfl (jM (jB (j8 999 [] rfl (jT 0 rfl (Val.moveS rfl) (jT 1 rfl (Val.moveI rfl) (jT 2 rfl (Val.sliceTo (m := 0) rfl rfl (by omega)) ?_))))))))))))))))))
 refine jT 3 rfl (Val.moveS rfl) (jT 4 rfl (Val.moveI rfl) (jT 5 rfl (Val.sliceFrom2 (m := j) rfl rfl (by omega) (by omega)) ?_))
 refine j5 6 rfl ?_
 refine WL.appRoom (ys := xs.drop j) (m := xs.length - j) 1 rfl rfl rfl (Rd.own 1 rfl _ _ (fun q u h => by
  rw [List.getElem?_drop] at h
  have hlt : j + q < xs.length := (List.getElem?_eq_some_iff.1 h).1
  rw [if_neg (by omega), Nat.zero_add, Nat.mul_one]
  exact hcs _ _ h)) hml (List.all_eq_true.2 fun x hx => List.all_eq_true.1 hall x (List.mem_of_mem_drop hx)) (by omega) (by omega) rfl ?_
 refine WL.nSet ?_
 refine jC (j7 [] rfl (jT 7 rfl (Val.assignS rfl) (j6 ?_)))
 rw [Nat.zero_add (xs.length - j)]
 refine jK (jc rfl (jc rfl (jm (jo rfl) (ja rfl (jm (Val.sliceMid (l := xs.length - j) (h := xs.length) rfl rfl rfl (by omega) (by omega)) ?_)))))
 rw [if_neg (show ¬ sc = xs.length - j by omega)]
 refine WL.clearB 1 rfl rfl rfl (by rw [splice_length (by rw [hml]; omega)]; omega) ?_
 refine WL.nSet ?_
 refine jN (jc rfl (jh rfl (jM (jR ?_))))
 refine WX.slIn (xs := xs.drop j) (sz := 1) (n := xs.length - j) (cap := sc) 1 rfl (by rw [splice_length (by rw [List.length_replicate, splice_length (by rw [hml]; omega)]; omega), splice_length (by rw [hml]; omega)]; omega) (by omega) k4 (by
  rw [splice_lo (by omega) (by rw [splice_length (by rw [hml]; omega)]; omega), Nat.mul_one, ← hml]
  have := splice_cut (C := cs) (vs := xs.drop j) (off := 0) (by omega)
  rw [Nat.zero_add, List.take_zero, List.nil_append] at this
  exact this) ?_
 exact jP [0] (jr1 rfl (jtS rfl)) ⟨rfl, rfl⟩
end Go.Proofs.YtggcpoleklcmkaaGreatDoor

namespace Go.Hi
open Go.Sl Go.Ls Go.Tr Go.Dc
theorem cms_cells {I : Mem} : ∀ {l : List Cm} {css : List (List Value)}, All2 (Cm.rep I) l css → css.length = l.length ∧ (∀ c ∈ css, c.length = 51) ∧ ∀ c ∈ css, c.all Value.oneCell' = true
 | [], [], _ => ⟨rfl, (fun c h => nomatch h), (fun c h => nomatch h)⟩
 | a :: l, c :: css, h => by
  obtain ⟨⟨e, t, u, d, q, rfl, hc⟩, h2⟩ := h
  obtain ⟨e1, e2, e3⟩ := cms_cells h2
  obtain ⟨_, _, _, _, _, _, _, _, _, _, rfl, rfl, rfl, rfl, rfl⟩ := hc.sl
  refine ⟨by rw [List.length_cons, List.length_cons, e1], fun c hc => ?_, fun c hc => ?_⟩
  ·rcases List.mem_cons.1 hc with rfl | hc
   ·rfl
   ·exact e2 c hc
  ·rcases List.mem_cons.1 hc with rfl | hc
   ·rfl
   ·exact e3 c hc
theorem Run.head {d d' : Dr} {c : Cm} {s t : List Cm} (h : Run d (c :: s) d' t) : GoodD d ∧ (d.apply c).2.2 = 0 ∧ ∃ t', Run (d.apply c).1 s d' t' := by
 cases h with
 | cons h he hr => exact ⟨h, he, _, hr⟩
theorem Run.same {d d' : Dr} {t : List Cm} (h : Run d [] d' t) : d = d' ∧ t = [] := by
 cases h with
 | nil _ => exact ⟨rfl, rfl⟩
end Go.Hi
namespace Go.Proofs.YtggcpoleklcmkaaGreatDoor
open Go.Sl Go.Ls Go.Tr Go.Dc Go.Hi
attribute [local irreducible] WC WL WX WK WA WAK Val Ctr RunRes ResIs Rd At sl box pt Exit.then Exit.inBlock bodyPost Code.wp wpList WCI WLI YieldC roundPost bodyM Code.wpIn
theorem sBackward (v : Value) (a : Option Addr) (n c : Nat) (hv : v = .slice a n c) (I : Mem) : Ctr Tryz.prog 121 [v] I [] (fun r I' L' => L' = [] ∧ ∃ g, r = .func (.func 154) #[] #[ptr g] ∧ Sl.At I' g 0 [v]) := by
 subst hv
 refine Ctr.intro Tryz.func121 rfl rfl rfl fun E F => ?_
 refine jS (WL.box rfl rfl (fun _ => ?_))
 refine jW ?_
 refine WL.val Val.assign rfl ?_
 refine jN (WL.val Val.makeFuncL rfl ?_)
 refine jm (Val.assignF rfl) (jM (jR ?_))
 rename_i g
 refine WX.boxFrz 1 rfl fun I1 hI1 hA1 => ?_
 refine WX.doneF (RunRes.r1 rfl (ResIs.tmp rfl)) hI1 ⟨rfl, g, rfl, hA1⟩
theorem sBack1 (l : Nat) (J : Nat → Mem → List HP → Prop) (bs : List Cm) (v : Value) (g : Nat) (I : Mem) (LJ : List HP) (hn : bs.length ≤ 1000000)
  (hY : ∀ (k : Nat) (hk : k < bs.length) (e t u dd q : Value) (I' : Mem) (L' : List HP), I.le I' → J (k + 1) I' L' → (bs[k]).at_ I' e t u dd q → YieldC Tryz.prog l [vi k, .agg ((bs[k]).cs e t u dd q).toArray] I' L' (fun v I2 L2 => v = .bool true ∧ J k I2 L2))
  (hv : LsAt Cm.rep I bs v) (hg : Sl.At I g 0 [v]) (hJ : J bs.length I LJ) :
  Ctr Tryz.prog 154 [yv l, ptr g] I LJ (fun _ I' L' => J 0 I' L') := by
 obtain ⟨a, c, rfl⟩ := hv.sl
 refine Ctr.intro Tryz.func154 rfl rfl rfl fun E F => ?_
 refine jS (jm (Val.loadS rfl (Rd.imm (by assumption))) ?_)
 refine jm (jo rfl) (jm (Val.sub rfl rfl (wrap_i64 (by omega) (by omega))) ?_)
 refine jf rfl (jM (WC.block ?_))
 refine WC.loop (fun n ρ' I' L' => ∃ (k : Nat) (LJ' : List HP), n = k ∧ k ≤ bs.length ∧ I.le I' ∧ ρ' 0 = yv l ∧ ρ' 1 = ptr g ∧ ρ' 3 = vi ((k : Int) - 1) ∧ L' = F :: LJ' ∧ J k I' LJ')
  bs.length ⟨bs.length, LJ, rfl, Nat.le_refl _, Mem.le.refl _, rfl, rfl, rfl, rfl, hJ⟩ ?_
 rintro k ρ' I0 L' ⟨_, LJ', rfl, hk, hI, h0, h1, h3, rfl, hJk⟩
 refine ju3 h3 h1 h0 ?_
 by_cases hk0 : k = 0
 ·subst hk0
  refine jB (jS (ja rfl (jm (Val.geq rfl rfl (decide_eq_false (by omega))) ?_)))
  exact jM (jE (WC.exit (WX.thenExit (WX.thenExit (WX.inHit (WX.doneFN (RunRes.r0 rfl) hI hJk))))))
 obtain ⟨j, rfl⟩ : ∃ j, k = j + 1 := ⟨k - 1, by omega⟩
 have hj1 : ((j + 1 : Nat) : Int) - 1 = (j : Int) := by omega
 rw [hj1]
 have hj : j < bs.length := by omega
 obtain ⟨bq, off, cap, cs, he, ⟨e, t, u, dd, q, rfl, hc⟩, hA⟩ := (hv.mono hI).get j hj
 cases he
 have hg0 := hg.mono hI
 have hYj := hY j hj e t u dd q I0 LJ' hI hJk hc
 refine jB (jS (ja rfl (jm (Val.geq rfl rfl (decide_eq_true (by omega))) ?_)))
 refine jM (jF (jV (jA (jB (WC.block (jB (WC.regionI ?_)))))))
 refine WLI.val (Val.moveF rfl) rfl ?_
 refine WLI.val (Val.moveI rfl) rfl ?_
 refine WLI.val (Val.loadS rfl (Rd.imm hg0)) rfl ?_
 refine WLI.val (Val.moveI rfl) rfl ?_
 refine WLI.val (Val.indexAddr rfl rfl (by omega) (by omega)) rfl ?_
 refine WLI.val (Val.loadI rfl hA rfl) rfl ?_
 refine WLI.yield rfl rfl hYj rfl ?_
 rintro v I1 L1 hI1 ⟨rfl, hJ1⟩
 refine WLI.of ?_
 refine jl rfl (jM (jE (jV (WX.inNormal (jA (jD (ja rfl (jm (Val.sub rfl rfl (wrap_i64 (by omega) (by omega))) ?_))))))))
 exact jf rfl (jC (WX.thenK (WK.round j (by omega) ⟨j, L1, rfl, by omega, hI.trans hI1, rfl, rfl, rfl, rfl, hJ1⟩)))
def HPlayR (D : Dm) (d : Dr) (l : List Cm) : Value → Mem → List HP → Prop := fun v I' L' => ∃ D' : Dm, D'.b = D.b ∧ L' = D'.hp ∧
 ((∃ d' bs a n, v = .tuple #[.slice a bs.length n, vi 0] ∧ DAbs I' D' d' ∧ Run d l d' bs ∧ LsAt Cm.rep I' bs (.slice a bs.length n)) ∨ (errS d l ≠ 0 ∧ v = .tuple #[.slice none 0 0, vi (errS d l)] ∧ DAbs I' D' d))
theorem hPlay (D : Dm) (d : Dr) (l : List Cm) (v : Value) (I : Mem) (hN : NeedAt I) (hD : DAbs I D d) (hG : GoodD d) (hv : LsAt Cm.rep I l v) (hfit : FitsS d l) (hl : l.length ≤ 1000000) :
  Ctr Tryz.prog 84 [ptr D.b, v] I D.hp (HPlayR D d l) := by
 have hv0 := hv
 obtain ⟨la, lc, rfl⟩ := hv.sl
 refine Ctr.introM Tryz.func84 rfl rfl rfl fun E F => ?_
 change WC _ _ _ _ [F, docBox D.b D.A.b D.mb D.segs, mp D.mb D.f D.cnt, _, _, _, _, _] _
 refine jS (WL.box rfl rfl (fun _ => ?_))
 refine jW ?_
 refine jh rfl (jf rfl (jN (jh rfl (jM (jB (jS (jc rfl (jm (jo rfl) (ja rfl (jM (WC.block ?_)))))))))))
 rename_i g2
 refine WC.slNil 59 51 ?_
 refine WC.nApp ?_
 refine WC.conv (fun w h => h.sub [0, 7, 0, 0, 0, 0, 0, 0, 0, 0] rfl) ?_
 refine WC.loop (fun n ρ' I' L' => ∃ (k : Nat) (D' : Dm) (d' : Dr) (bs : List Cm) (a : Option Addr) (c : Nat) (p : HP), n = l.length - k ∧ k ≤ l.length ∧ I.le I' ∧ ρ' 2 = ptr g2 ∧ ρ' 6 = .slice a bs.length c ∧ ρ' 13 = .slice la l.length lc ∧ ρ' 14 = vi l.length ∧ ρ' 15 = vi k ∧
   L' = F :: box g2 49 [ptr D.b] :: (D'.hp ++ [p]) ∧ D'.b = D.b ∧ DAbs I' D' d' ∧ Run d (l.take k) d' bs.reverse ∧ OwnL Cm.rep 59 51 I' bs (.slice a bs.length c) p ∧ FitsS d' (l.drop k) ∧ bs.length = k)
  l.length ⟨0, D, d, [], _, _, _, rfl, by omega, Mem.le.refl _, rfl, rfl, rfl, rfl, rfl, rfl, rfl, hD, by rw [List.take_zero]; exact .nil hG, OwnL.nil _ _ _ _, hfit, rfl⟩ ?_
 clear hD hfit
 rintro n ρ' I2 L' ⟨k, D1, d1, bs, a, cp, p, rfl, hk, hI2, r2, r6, r13, r14, r15, rfl, hDb, hD, hR, hp, hfit, hbl⟩
 refine ju5 r15 r14 r13 r6 r2 ?_
 rw [← hDb]
 change WC _ _ _ _ [F, box g2 49 [ptr D1.b], docBox D1.b D1.A.b D1.mb D1.segs, mp D1.mb D1.f D1.cnt, _, _, _, _, _, p] _
 by_cases hkn : k < l.length
 ·obtain ⟨bq, off, cap, cs, he, ⟨e, t, u, dd, q, rfl, hc⟩, hA⟩ := (hv0.mono hI2).get k hkn
  cases he
  have hG1 := hR.good.2
  obtain ⟨⟨A1, hA1⟩, hF, hdom⟩ := hG1
  rw [List.drop_eq_getElem_cons hkn] at hfit
  have htk := List.take_succ_eq_append_getElem hkn
  have hlk : l = l.take k ++ l[k] :: l.drop (k + 1) := by rw [← List.drop_eq_getElem_cons hkn, List.take_append_drop]
  obtain ⟨⟨f1, f2⟩, f3⟩ := hfit
  generalize l[k] = c at *
  have hc0 := hc
  obtain ⟨x0, y0, x1, y1, x2, y2, x3, y3, x4, y4, rfl, rfl, rfl, rfl, rfl⟩ := hc.sl
  refine jS (jy rfl rfl (jM (jB (jF (jV (jA (jB (WC.block (jS (jm (jZ rfl rfl) (jm (Val.loadI rfl (by assumption) rfl) ?_)))))))))))
  refine WL.alloc rfl (fun _ => ?_)
  refine jW ?_
  refine WL.stA 10 rfl rfl rfl rfl ?_
  refine jN (jm (jp 1 rfl rfl rfl) (jm (jt 10 rfl rfl rfl) ?_))
  rename_i g8
  refine WL.callP [2, 2, 2, 2, 2, 2, 2] rfl rfl (dApply D1 d1 c _ _ _ _ _ _ (hN.mono hI2) hD hc0 f1 hF.inv.nonneg f2) rfl ?_
  rintro _ I3 _ hI3 ⟨D', bcs, rfl, ⟨e', t', u', d', q', rfl, hbk⟩, hb, rfl, hD'⟩
  have hF' := hF.apply (c := c) hD.abs hdom hD'.abs
  have hbk0 := hbk
  obtain ⟨p0, o0, p1, o1, p2, o2, p3, o3, p4, o4, rfl, rfl, rfl, rfl, rfl⟩ := hbk.sl
  rw [← hb]
  refine jW ?_
  by_cases he : (d1.apply c).2.2 = 0
  ·rw [he]
   refine je rfl (jm (Val.extractA rfl rfl) (jm (jq rfl rfl) (WL.alloc rfl (fun _ => ?_))))
   refine jW ?_
   refine WL.stA 11 rfl rfl rfl rfl ?_
   refine jf rfl (jM (jB (jS (ja rfl (jz rfl rfl (jM (jE (jV (jA (jD (jc rfl (jm (jt 11 rfl rfl rfl) (WL.buildSlice (by with_unfolding_all exact rfl) rfl (by with_unfolding_all exact rfl) rfl (fun _ => ?_))))))))))))))
   refine jW ?_
   rename_i g9 g37
   refine WL.appOne (y := (d1.apply c).2.1) (cs := Cm.cs (d1.apply c).2.1 (.slice p0 (d1.apply c).2.1.ents.length o0) (.slice p1 (d1.apply c).2.1.atr.sty.fill.stops.length o1) (.slice p2 (d1.apply c).2.1.atr.sty.pen.stops.length o2) (.slice p3 (d1.apply c).2.1.atr.sty.dash.length o3) (.slice p4 (d1.apply c).2.1.atr.path.length o4)) 2 12 rfl rfl (hp.mono hI3) rfl rfl ⟨_, _, _, _, _, rfl, hbk0⟩ rfl rfl (by rfl) (by decide) (by omega) (by unfold maxLen; omega) rfl fun aa cc p' hp' => ?_
   refine WL.nSet ?_
   have hbl1 : (bs ++ [(d1.apply c).2.1]).length = bs.length + 1 := by rw [List.length_append]; rfl
   refine jh rfl (jC (WX.inNormal (jA (jD (jX rfl rfl (ja rfl (jC (WX.conv (fun w h => h.sub [0, 0, 2, 2, 2, 2, 2, 2, 2, 0] rfl) ?_))))))))
   refine WX.thenK (WK.round (l.length - (k + 1)) (by omega) ⟨k + 1, D', (d1.apply c).1, bs ++ [(d1.apply c).2.1], aa, cc, p', rfl, by omega, hI2.trans hI3, rfl, by rw [hbl1]; rfl, rfl, rfl, rfl, rfl, rfl, hD', ?_, by rw [hbl1]; exact hp', f3 he, by omega⟩)
   rw [htk, List.reverse_append]
   exact hR.snoc he ⟨⟨_, hD'.abs⟩, hF', hD'.dom⟩
  ·obtain ⟨q1, q2⟩ := apply_err he
   rw [q1] at hD'
   have herr : errS d l = (d1.apply c).2.2 := by rw [hlk]; exact hR.err_app _ he
   obtain ⟨tb, htb⟩ := hR.back
   have hfb := hR.fits
   rw [← herr] at he ⊢
   refine je rfl (jm (Val.extractA rfl rfl) (jm (jq rfl rfl) (WL.alloc rfl (fun _ => ?_))))
   refine jW ?_
   refine WL.stA 11 rfl rfl rfl rfl ?_
   refine jf rfl (jM (jB (jS (ja rfl (jJ rfl rfl (jM (jF (jB (jS (jc rfl ?_))))))))))
   rename_i g9
   refine WL.freezeL 2 rfl (hp.mono hI3) fun I4 hI4 hbv => ?_
   refine WL.callP [] rfl rfl (sBackward _ _ _ _ rfl _) rfl ?_
   rintro _ I5 _ hI5 ⟨rfl, g, rfl, hg⟩
   refine jW ?_
   refine jM (WC.block (WC.conv (fun w h => h.sub [0, 0, 1, 1, 1, 1, 1, 1, 1] rfl) ?_))
   have hJ5 := ((hI2.trans hI3).trans hI4).trans hI5
   refine WC.rangeFunc rfl rfl (fun I' L' => ∃ D2 : Dm, L' = box g2 49 [ptr D'.b] :: D2.hp ∧ D2.b = D'.b ∧ DAbs I' D2 d ∧ I5.le I') (fun _ _ _ => False) ?_ ?_ ?_
   ·intro Dd lid r hr
    refine (sBack1 lid (fun j I' L' => ∃ (D2 : Dm) (d2 : Dr) (t2 : List Cm), L' = lp lid (r .ready none) :: dp Dd :: box g2 49 [ptr D'.b] :: D2.hp ∧ D2.b = D'.b ∧ DAbs I' D2 d2 ∧ Run d2 (bs.take j).reverse d t2 ∧ FitsS d2 (bs.take j).reverse ∧ I5.le I') bs _ g I5 _ (by omega) ?_ (hbv.mono hI5) hg ⟨D', d1, tb, rfl, rfl, (hD'.mono hI4).mono hI5, by rw [List.take_length]; exact htb, by rw [List.take_length]; exact hfb, Mem.le.refl _⟩).mono ?_
    ·rintro j hj e t u dd q I6 L6 hI6 ⟨D2, d2, t2, rfl, hb2, hD2, hr2, hf2, _⟩ hcj
     rw [List.take_succ_eq_append_getElem hj, List.reverse_append] at hr2 hf2
     obtain ⟨k1, k2, t3, k3⟩ := Run.head hr2
     obtain ⟨⟨m1, m2⟩, m3⟩ := hf2
     generalize bs[j] = cj at *
     have hcj0 := hcj
     obtain ⟨z0, w0, z1, w1, z2, w2, z3, w3, z4, w4, rfl, rfl, rfl, rfl, rfl⟩ := hcj.sl
     refine YieldC.of_body hr rfl rfl fun E F => ?_
     rw [← hb2]
     change WCI _ _ _ _ _ [F, lp lid (r .ready none), dp Dd, box g2 49 [ptr D2.b], docBox D2.b D2.A.b D2.mb D2.segs, mp D2.mb D2.f D2.cnt, _, _, _, _, _] _
     refine WCI.region ?_
     refine WL.alloc rfl (fun _ => ?_)
     refine jW ?_
     refine WL.stA 11 rfl rfl rfl rfl ?_
     refine jC ?_
     rename_i g12
     refine WX.begin hr ?_
     refine WCI.block ?_
     refine WCI.region ?_
     refine jm (jp 3 rfl rfl rfl) (jm (jt 11 rfl rfl rfl) (WL.callP [4, 4, 4, 4, 4, 4, 4] rfl rfl (dApply D2 d2 cj _ _ _ _ _ _ (hN.mono (hJ5.trans hI6)) hD2 hcj0 m1 k1.2.1.inv.nonneg m2) rfl ?_))
     rintro _ I7 _ hI7 ⟨D3, bcs, rfl, ⟨e', t', u', d', q', rfl, hbk⟩, hb3, rfl, hD3⟩
     obtain ⟨_, _, _, _, _, _, _, _, _, _, rfl, rfl, rfl, rfl, rfl⟩ := hbk.sl
     refine jW ?_
     exact jC (WX.inNormal (WX.conv (fun w h => h.sub [0, 0, 0, 0, 1, 1, 1, 1, 1, 1, 1] rfl) (WX.roundGo hr hI7 ⟨rfl, D3, (d2.apply cj).1, t3, rfl, hb3, hD3, k3, m3 k2, hI6.trans hI7⟩)))
    ·rintro v I' L' hI' ⟨D2, d2, t2, rfl, hb2, hD2, hr2, _, hI5'⟩
     rw [List.take_zero, List.reverse_nil] at hr2
     obtain ⟨rfl, rfl⟩ := hr2.same
     exact .inl ⟨_, rfl, D2, rfl, hb2, hD2, hI5'⟩
   ·rintro Dd I' L1 hI' ⟨D2, rfl, hb2, hD2, _⟩
    change WX _ _ _ _ [F, dp Dd, box g2 49 [ptr D'.b], docBox D2.b D2.A.b D2.mb D2.segs, mp D2.mb D2.f D2.cnt, _, _, _, _, _] _
    refine WX.inNormal (jK (ja rfl (jh rfl (jf rfl (jM (jR (jU (WX.inRet (jU (jU (WX.inRet (jU ?_))))))))))))
    refine WX.doneM (RunRes.r2 rfl (ResIs.tmp rfl) (ResIs.tmp rfl)) [1, 1, 1, 1, 1, 1, 1] (hJ5.trans hI') ⟨D2, hb2.trans (hb.trans hDb), rfl, .inr ⟨he, rfl, hD2⟩⟩
   ·intro Dd c I' L1 hI' h
    exact h.elim
 ·have hkl : k = l.length := by omega
  subst hkl
  rw [List.take_length] at hR
  obtain ⟨css, rfl, hall⟩ := hp
  obtain ⟨e1, e2, e3⟩ := cms_cells hall
  refine jS (jx rfl rfl (jM (jB (jE (WC.exit (WX.thenExit (WX.thenExit (WX.inHit (jK (jc rfl (WL.callP [9] rfl rfl (sRev css bs.length e1 e2 e3 (by omega) _ _) rfl ?_)))))))))))
  rintro _ I3 _ hI3 ⟨rfl, rfl⟩
  refine jW ?_
  have hpr : OwnL Cm.rep 59 51 I3 bs.reverse (.slice a bs.length cp) (sl 59 51 (.slice a bs.length cp) bs.length css.reverse.flatten) := ⟨css.reverse, by rw [List.length_reverse], Go.Hi.All2.rev hall⟩
  refine WL.freezeL 9 rfl hpr fun I4 hI4 hbv => ?_
  refine jN (jc rfl (jh rfl (jf rfl (jM (jR ?_)))))
  refine WX.doneM0 (RunRes.r2 rfl (ResIs.tmp rfl) (ResIs.tmp rfl)) [1, 1, 1, 1, 1, 1, 1] (hI2.trans hI4) ⟨D1, hDb, rfl, .inl ⟨d1, bs.reverse, a, cp, ?_, hD.mono hI4, hR, ?_⟩⟩
  ·rw [List.length_reverse]; rfl
  ·rw [List.length_reverse]; exact hbv
end Go.Proofs.YtggcpoleklcmkaaGreatDoor

namespace Go.Sl
open Go.Ls
theorem splice_one {cs : List Value} {off : Nat} {v : Value} (h : off < cs.length) : splice cs off [v] = cs.set off v := by
 unfold splice
 rw [List.set_eq_take_append_cons_drop, if_pos h, List.append_assoc]
 rfl
section
variable {Γ : Cx} {ops : Array Oper} {rest : List Oper} {ρ : Nat → Value} {I : Mem} {L : List HP} {Q : Post} {ty : TypeId} {ps : String} {af : Array Edge}
theorem WL.storeAt {t b off bt : Nat} {x y : Operand} {cs : List Value} {v : Value} (k : Nat) [hk : TyK Γ.P t false 1] (hx : ev ρ x = .pointer (some ⟨b, off, none⟩)) (hL : L[k]? = some (Sl.box b bt cs)) (hy : ev ρ y = v) (hv : v.cells.toList = [v]) (h1 : v.oneCell' = true) (ho : off < cs.length)
  (next : WL Γ ops rest ρ I (L.set k (Sl.box b bt (cs.set off v))) Q) : WL Γ ops ({ dst := none, op := .store t x y, type := ty, pos := ps, after := af, guard := none } :: rest) ρ I L Q := by
 refine WL.store k hx hL ?_ ?_
 ·rw [hy, hv]
  have : Nat.ble (off + 1) cs.length = true := Nat.ble_eq_true_of_le ho
  simp [storeOk, h1, this]
 ·rw [hy, hv, splice_one ho]; exact next
theorem WC.ownOpen {α : Type} {R : Rep α} {c : Code} {e sz : Nat} {l : List α} {v : Value} {p : HP} (k : Nat) (hL : L[k]? = some p) (hp : OwnL R e sz I l v p) (next : ∀ aa cap, v = .slice aa l.length cap → (0 < l.length → ∃ g, aa = some ⟨g, 0, none⟩) → l.length ≤ cap → WC Γ c ρ I L Q) : WC Γ c ρ I L Q := by
 obtain ⟨css, rfl, _⟩ := hp
 exact WC.slOpen k hL next
end
end Go.Sl
namespace Go.Hi
open Go.Sl Go.Ls Go.Tr Go.Dc
theorem keep_all {α : Type} {n : Nat} {l : List α} (h : l.length ≤ n) : keep n l = l := by
 rw [keep, show l.length - n = 0 by omega, List.drop_zero]
theorem keep_len {α : Type} {n : Nat} {l : List α} : (keep n l).length = min n l.length := by
 rw [keep, List.length_drop]; omega
end Go.Hi
namespace Go.Proofs.YtggcpoleklcmkaaGreatDoor
open Go.Sl Go.Ls Go.Tr Go.Dc Go.Hi
attribute [local irreducible] WC WL WX WK WA WAK Val Ctr RunRes ResIs Rd At sl box pt Exit.then Exit.inBlock bodyPost Code.wp wpList
structure Hm where
 b : Nat
 D : Dm
 bnd : Nat
 uv : Value
 rv : Value
 up : HP
 rp : HP
abbrev Hm.cs (H : Hm) : List Value := [ptr H.D.b, vi H.bnd, H.uv, H.rv]
abbrev Hm.hp (H : Hm) : List HP := box H.b 153 (Hm.cs H) :: H.up :: H.rp :: H.D.hp
structure HAbs (I : Mem) (H : Hm) (d : Dr) (us rs : List (List Cm)) (ws ns : List Dr) : Prop where
 dab : DAbs I H.D d
 good : GoodD d
 u : OwnL Step.rep 154 1 I us H.uv H.up
 r : OwnL Step.rep 154 1 I rs H.rv H.rp
 cu : Chain d us ws
 cr : Chain d rs ns
 ul : us.length ≤ H.bnd
 rl : rs.length ≤ H.bnd
 su : ∀ s ∈ us, s.length ≤ 64
 sr : ∀ s ∈ rs, s.length ≤ 64
 b1 : 1 ≤ H.bnd
 b2 : H.bnd ≤ 1024
theorem hPush (cs : List Value) (f hb bnd : Nat) (us : List (List Cm)) (s : List Cm) (sv x : Value) (p : HP) (I : Mem) (hoff : cs[f]? = some sv) (hp : OwnL Step.rep 154 1 I us sv p) (hx : LsAt Cm.rep I s x) (hn : us.length ≤ 100000) (hb1 : 1 ≤ bnd) (hb2 : bnd ≤ 100000) :
  Ctr Tryz.prog 85 [.pointer (some ⟨hb, f, none⟩), x, vi bnd] I [box hb 153 cs, p]
   (fun _ I' L' => I' = I ∧ ∃ sv' p', L' = [box hb 153 (cs.set f sv'), p'] ∧ OwnL Step.rep 154 1 I (keep bnd (us ++ [s])) sv' p') := by
 have hfl : f < cs.length := (List.getElem?_eq_some_iff.1 hoff).1
 obtain ⟨xa, xc, rfl⟩ := hx.sl
 have hsl : (us ++ [s]).length = us.length + 1 := by rw [List.length_append]; rfl
 refine Ctr.intro Tryz.func85 rfl rfl rfl fun E F => ?_
 refine WC.ownOpen 2 rfl hp fun sa sc hs hsg hsc => ?_
 subst hs
 refine jS (jd rfl (jd rfl (jm (jr rfl) (jm (Val.loadS rfl (Rd.own1 1 rfl hoff)) ?_))))
 refine jc rfl (WL.buildSlice (by with_unfolding_all exact rfl) rfl (by with_unfolding_all exact rfl) rfl (fun _ => ?_))
 refine jW ?_
 rename_i g
 refine WL.appOne (y := s) (cs := [.slice xa s.length xc]) 2 3 rfl rfl hp rfl rfl ⟨_, rfl, hx⟩ rfl rfl (by rfl) (by decide) (by omega) (by unfold maxLen; omega) rfl fun aa cc p' hp' => ?_
 refine WL.nSet ?_
 refine jm (jr rfl) (WL.storeAt 1 rfl rfl rfl rfl rfl hfl ?_)
 refine WL.nSet ?_
 have hoff2 : (cs.set f (.slice aa (us.length + 1) cc))[f]? = some (.slice aa (us.length + 1) cc) := by rw [List.getElem?_set, if_pos rfl, if_pos hfl]
 refine jN (jd rfl (jm (jr rfl) (jm (Val.loadS rfl (Rd.own1 1 rfl hoff2)) ?_)))
 by_cases hk : us.length + 1 ≤ bnd
 ·skip
  refine jm (jo rfl) (ja rfl (jm (Val.sub rfl rfl (wrap_i64 (by omega) (by omega))) ?_))
  refine jf rfl (jN (ja rfl (jL rfl rfl (jM (jE (jV ?_))))))
  apply WX.doneN (ks := [0, 0])
  case hres => exact RunRes.r0 rfl
  case hp => rfl
  case hI => first | exact Mem.le.refl _ | assumption
  refine ⟨rfl, _, _, rfl, ?_⟩
  rw [keep_all (by omega)]
  exact hp'
 obtain ⟨m, hm⟩ : ∃ m, us.length + 1 = m + bnd := ⟨us.length + 1 - bnd, by omega⟩
 have hmi : ((us.length + 1 : Nat) : Int) - (bnd : Int) = (m : Int) := by omega
 refine jm (jo rfl) (ja rfl (jm (Val.sub rfl rfl (wrap_i64 (by omega) (by omega))) ?_))
 refine jf rfl (jN (ja rfl (jO rfl rfl (jM (jF (jD (jd rfl (jd rfl (jm (jr rfl) (jm (Val.loadS rfl (Rd.own1 1 rfl hoff2)) ?_))))))))))
 refine ja rfl ?_
 rw [hmi]
 obtain ⟨css, rfl, hall⟩ := hp'
 obtain ⟨e1, e2, e3⟩ := one_flat hall
 rw [hsl]
 refine WL.callP [2] rfl rfl (sDel css.flatten (us.length + 1) m (by omega) _ _ e2 (by omega) (by omega) (by omega)) rfl ?_
 rintro r I2 _ hI2 ⟨rfl, rfl⟩
 refine jW ?_
 refine WL.slOpen 3 rfl fun ra rc hr => ?_
 subst hr
 refine jm (jr rfl) (WL.storeAt 1 rfl rfl rfl rfl rfl (by rw [List.length_set]; exact hfl) ?_)
 refine WL.nSet ?_
 rw [List.set_set]
 refine jC ?_
 apply WX.doneN (ks := [0, 1])
 case hres => exact RunRes.r0 rfl
 case hp => rfl
 case hI => first | exact Mem.le.refl _ | assumption
 refine ⟨rfl, .slice ra (us.length + 1 - m) rc, _, rfl, css.drop m, ?_, ?_⟩
 ·rw [e3, keep, List.length_drop, hsl, show us.length + 1 - bnd = m by omega]
 ·rw [keep, hsl, show us.length + 1 - bnd = m by omega]
  exact Go.Hi.All2.drop m hall
theorem hNew (b : Int) (I : Mem) (h64 : I64 b) : Ctr Tryz.prog 40 [vi b] I [] (fun v I' L' => I' = I ∧ (((b < 1 ∨ 1024 < b) ∧ v = .pointer none ∧ L' = []) ∨ (1 ≤ b ∧ b ≤ 1024 ∧ ∃ H : Hm, v = ptr H.b ∧ (H.bnd : Int) = b ∧ L' = Hm.hp H ∧ HAbs I H Dr.new [] [] [] []))) := by
 obtain ⟨i1, i2⟩ := h64
 refine Ctr.intro Tryz.func40 rfl rfl rfl fun E F => ?_
 refine WC.slNil 154 1 ?_
 refine WC.nApp ?_
 refine WC.slNil 154 1 ?_
 refine WC.nApp ?_
 by_cases h1 : b < 1
 ·skip
  refine jS (ji rfl (jM (jB (jS (ja rfl (jy rfl rfl (jb rfl (jH (jH (jk rfl (jM (jF (jS (ji rfl (jM (jR (jU ?_)))))))))))))))))
  exact jP [] (jr1 rfl (ResIs.tmpP rfl)) ⟨rfl, .inl ⟨.inl h1, rfl, rfl⟩⟩
 by_cases h2 : 1024 < b
 ·skip
  refine jS (ji rfl (jM (jB (jS (ja rfl (jx rfl rfl (jb rfl (jG (ja rfl (jG (jO rfl rfl (jk rfl (jM (jF (jS (ji rfl (jM (jR (jU ?_)))))))))))))))))))
  exact jP [] (jr1 rfl (ResIs.tmpP rfl)) ⟨rfl, .inl ⟨.inr h2, rfl, rfl⟩⟩
 obtain ⟨n, rfl⟩ : ∃ n : Nat, b = n := ⟨b.toNat, by omega⟩
 refine jS (ji rfl (jM (jB (jS (ja rfl (jx rfl rfl (jb rfl (jG (ja rfl (jG (jL rfl rfl (jk rfl (jM (jE (jV (jK (WL.callP [] rfl rfl (dNew _) rfl ?_)))))))))))))))))
 rintro _ I1 _ _ ⟨rfl, b0, tb, mb0, cg, db, rfl, rfl⟩
 have hD0 := new_abs I1 b0 mb0 cg db tb
 change WL _ _ _ _ _ (_ ++ [_, _, _, _, _, _, _]) _
 refine jW ?_
 refine ja rfl (jm (Val.build (cs := [ptr db, vi n, .slice none 0 0, .slice none 0 0]) rfl) ?_)
 refine WL.boxA rfl rfl (fun _ => ?_)
 refine jW ?_
 refine ji rfl (jM (jR ?_))
 refine jP [9, 0, 0, 0, 0, 0, 0, 0, 0, 0] (jr1 rfl (ResIs.tmpP rfl)) ?_
 rename_i g
 exact ⟨rfl, .inr ⟨by omega, by omega, ⟨g, _, n, .slice none 0 0, .slice none 0 0, _, _⟩, rfl, rfl, rfl, ⟨hD0, GoodD.new, OwnL.nil _ _ _ _, OwnL.nil _ _ _ _, .nil, .nil, Nat.zero_le _, Nat.zero_le _, (fun s h => nomatch h), (fun s h => nomatch h), by show 1 ≤ n; omega, by show n ≤ 1024; omega⟩⟩⟩
theorem hUndos (H : Hm) (d : Dr) (us rs : List (List Cm)) (ws ns : List Dr) (I : Mem) (hH : HAbs I H d us rs ws ns) : Ctr Tryz.prog 43 [ptr H.b] I (Hm.hp H) (Keep I (Hm.hp H) fun v => v = vi us.length) := by
 refine Ctr.intro Tryz.func43 rfl rfl rfl fun E F => ?_
 obtain ⟨b, D, bnd, uv, rv, up, rp⟩ := H
 refine WC.ownOpen 2 rfl hH.u fun sa sc hs _ _ => ?_
 cases hs
 change WC _ _ _ _ [F, box b 153 [ptr D.b, vi bnd, .slice sa us.length sc, rv], up, rp, _, _, _, _, _, _, _] _
 refine jS (jf rfl (jN (jd rfl (jm (jr rfl) (jm (jn rfl) (jm (jp 1 rfl rfl rfl) (jm (jo rfl) (jf rfl (jM (jR ?_))))))))))
 exact jP [0, 0, 0, 0, 0, 0, 0, 0, 0, 0] (jr1 rfl (jtI rfl)) ⟨rfl, rfl, rfl⟩
theorem hRedos (H : Hm) (d : Dr) (us rs : List (List Cm)) (ws ns : List Dr) (I : Mem) (hH : HAbs I H d us rs ws ns) : Ctr Tryz.prog 46 [ptr H.b] I (Hm.hp H) (Keep I (Hm.hp H) fun v => v = vi rs.length) := by
 refine Ctr.intro Tryz.func46 rfl rfl rfl fun E F => ?_
 obtain ⟨b, D, bnd, uv, rv, up, rp⟩ := H
 refine WC.ownOpen 3 rfl hH.r fun sa sc hs _ _ => ?_
 cases hs
 change WC _ _ _ _ [F, box b 153 [ptr D.b, vi bnd, uv, .slice sa rs.length sc], up, rp, _, _, _, _, _, _, _] _
 refine jS (jf rfl (jN (jd rfl (jm (jr rfl) (jm (jn rfl) (jm (jp 1 rfl rfl rfl) (jm (jo rfl) (jf rfl (jM (jR ?_))))))))))
 exact jP [0, 0, 0, 0, 0, 0, 0, 0, 0, 0] (jr1 rfl (jtI rfl)) ⟨rfl, rfl, rfl⟩
theorem hDoc (H : Hm) (d : Dr) (us rs : List (List Cm)) (ws ns : List Dr) (I : Mem) (hH : HAbs I H d us rs ws ns) : Ctr Tryz.prog 45 [ptr H.b] I (Hm.hp H) (fun v I' L' => I' = I ∧ ∃ D2 : Dm, v = ptr D2.b ∧ L' = Hm.hp H ++ D2.hp ∧ DAbs I D2 d) := by
 refine Ctr.intro Tryz.func45 rfl rfl rfl fun E F => ?_
 obtain ⟨b, D, bnd, uv, rv, up, rp⟩ := H
 change WC _ _ _ _ [F, box b 153 [ptr D.b, vi bnd, uv, rv], up, rp, docBox D.b D.A.b D.mb D.segs, mp D.mb D.f D.cnt, _, _, _, _, _] _
 refine jS (ji rfl (jN (jd rfl (jm (jr rfl) (jm (jn rfl) (jm (jp 1 rfl rfl rfl) (WL.callP [4, 4, 4, 4, 4, 4, 4] rfl rfl (dCopy D d _ hH.dab) rfl ?_)))))))
 rintro _ I1 _ _ ⟨rfl, D2, rfl, rfl, hD2⟩
 change WL _ _ _ _ _ (_ ++ [docBox D.b D.A.b D.mb D.segs, mp D.mb D.f D.cnt, _, _, _, _, _, docBox D2.b D2.A.b D2.mb D2.segs, mp D2.mb D2.f D2.cnt, _, _, _, _, _]) _
 refine jW ?_
 refine ji rfl (jM (jR ?_))
 exact jP [0, 0, 0, 0, 0, 0, 0, 0, 0, 0, 0, 0, 0, 0, 0, 0, 0] (jr1 rfl (ResIs.tmpP rfl)) ⟨rfl, D2, rfl, rfl, hD2⟩
end Go.Proofs.YtggcpoleklcmkaaGreatDoor

namespace Go.Hi
open Go.Sl Go.Ls Go.Tr Go.Dc
theorem all2_snoc {α β : Type} {R : α → β → Prop} {a : α} : ∀ {l : List α} {r : List β}, All2 R (l ++ [a]) r → ∃ r' b, r = r' ++ [b] ∧ All2 R l r' ∧ R a b
 | [], [b], h => ⟨[], b, rfl, trivial, h.1⟩
 | [], b :: c :: r, h => h.2.elim
 | [], [], h => h.elim
 | x :: l, [], h => h.elim
 | x :: l, y :: r, h => by
  obtain ⟨r', b, rfl, h1, h2⟩ := all2_snoc (l := l) h.2
  exact ⟨y :: r', b, rfl, ⟨h.1, h1⟩, h2⟩
theorem Run.len {d d' : Dr} {s bs : List Cm} (h : Run d s d' bs) : bs.length = s.length := by
 induction h with
 | nil _ => rfl
 | cons _ _ _ ih => rw [List.length_append, ih]; rfl
theorem Chain.push {d w : Dr} {us : List (List Cm)} {ws : List Dr} {s s0 : List Cm} (n : Nat) (hr : Run w s0 d s) (h : Chain w us ws) : Chain d (keep n (us ++ [s])) (keep n (ws ++ [w])) := by
 have h1 := Chain.snoc hr h
 have h2 := h1.len
 rw [keep, keep, h2]
 exact h1.drop _
theorem keep_mem {α : Type} {n : Nat} {l : List α} {x : α} (h : x ∈ keep n l) : x ∈ l := List.mem_of_mem_drop h
theorem concat_of {α : Type} {l : List α} (h : ¬ l.length = 0) : ∃ k x, l = k ++ [x] := by
 have h1 : l ≠ [] := fun e => h (by rw [e]; rfl)
 exact ⟨l.dropLast, l.getLast h1, (List.dropLast_concat_getLast h1).symm⟩
end Go.Hi
namespace Go.Proofs.YtggcpoleklcmkaaGreatDoor
open Go.Sl Go.Ls Go.Tr Go.Dc Go.Hi
attribute [local irreducible] WC WL WX WK WA WAK Val Ctr RunRes ResIs Rd At sl box pt Exit.then Exit.inBlock bodyPost Code.wp wpList
theorem hTurn (cs : List Value) (f1 f2 hb bnd : Nat) (D : Dm) (d : Dr) (us rs : List (List Cm)) (fv tv : Value) (pf pt : HP) (I : Mem) (hN : NeedAt I) (hD : DAbs I D d) (hG : GoodD d) (c0 : cs[0]? = some (ptr D.b)) (c1 : cs[1]? = some (vi bnd)) (cf : cs[f1]? = some fv) (ct : cs[f2]? = some tv) (hne : f1 ≠ f2) (hn1 : f1 ≠ 1)
  (hpf : OwnL Step.rep 154 1 I us fv pf) (hpt : OwnL Step.rep 154 1 I rs tv pt) (hus : us.length ≤ 100000) (hrs : rs.length ≤ 100000) (hb1 : 1 ≤ bnd) (hb2 : bnd ≤ 100000)
  (hrun : ∀ ws s, us = ws ++ [s] → FitsS d s ∧ s.length ≤ 1000000 ∧ ∃ d' bs, Run d s d' bs) :
  Ctr Tryz.prog 86 [ptr hb, .pointer (some ⟨hb, f1, none⟩), .pointer (some ⟨hb, f2, none⟩)] I (box hb 153 cs :: pf :: pt :: D.hp)
   (fun v I' L' => (us = [] ∧ v = vi 50 ∧ L' = box hb 153 cs :: pf :: pt :: D.hp) ∨
    (∃ ws s d' bs, ∃ D' : Dm, ∃ fv' tv' pf' pt', us = ws ++ [s] ∧ v = vi 0 ∧ D'.b = D.b ∧ L' = box hb 153 ((cs.set f1 fv').set f2 tv') :: pf' :: pt' :: D'.hp ∧ DAbs I' D' d' ∧ Run d s d' bs ∧ OwnL Step.rep 154 1 I' ws fv' pf' ∧ OwnL Step.rep 154 1 I' (keep bnd (rs ++ [bs])) tv' pt')) := by
 have hf1 : f1 < cs.length := (List.getElem?_eq_some_iff.1 cf).1
 refine Ctr.intro Tryz.func86 rfl rfl rfl fun E F => ?_
 change WC _ _ _ _ [F, box hb 153 cs, pf, pt, docBox D.b D.A.b D.mb D.segs, mp D.mb D.f D.cnt, _, _, _, _, _] _
 refine WC.ownOpen 2 rfl hpf fun sa sc hs hsg hsc => ?_
 subst hs
 refine jS (jf rfl (jN (jd rfl (jm (jr rfl) (jm (Val.loadS rfl (Rd.own1 1 rfl cf)) ?_)))))
 by_cases hu : us.length = 0
 ·skip
  refine jm (jo rfl) (jm (Val.sub rfl rfl (wrap_i64 (by omega) (by omega))) ?_)
  refine jf rfl (jM (jB (jS (ja rfl (jy rfl rfl (jM (jF (jS (jf rfl (jM (jR (jU ?_))))))))))))
  exact jP [0, 0, 0, 0, 0, 0, 0, 0, 0, 0] (jr1 rfl (jtI rfl)) (.inl ⟨List.eq_nil_of_length_eq_zero hu, rfl, rfl⟩)
 obtain ⟨ws, s, rfl⟩ := concat_of hu
 obtain ⟨hfit, hsl, d9, b9, hR9⟩ := hrun ws s rfl
 have hl1 : (ws ++ [s]).length = ws.length + 1 := by rw [List.length_append]; rfl
 obtain ⟨g, rfl⟩ := hsg (by omega)
 have hli : (((ws ++ [s]).length : Nat) : Int) - 1 = (ws.length : Int) := by omega
 refine jm (jo rfl) (jm (Val.sub rfl rfl (wrap_i64 (by omega) (by omega))) ?_)
 refine jf rfl (jM (jB (jS (ja rfl (jx rfl rfl (jM (jE (jV (jA (jB ?_))))))))))
 rw [hli]
 obtain ⟨css, rfl, hall⟩ := hpf
 obtain ⟨cw, b, rfl, hw, x, rfl, hx⟩ := all2_snoc hall
 obtain ⟨e1, e2, e3⟩ := one_flat hw
 obtain ⟨xa, xc, rfl⟩ := hx.sl
 have hfl : (cw ++ [[Value.slice xa s.length xc]]).flatten = cw.flatten ++ [Value.slice xa s.length xc] := by rw [List.flatten_append]; rfl
 rw [hfl] at *
 have hel : ∀ q u, [Value.slice xa s.length xc][q]? = some u → (cw.flatten ++ [Value.slice xa s.length xc])[0 + (ws.length : Int).toNat * 1 + q]? = some u := fun q u h => by
  rw [List.getElem?_append_right (by rw [e1, Int.toNat_natCast]; omega), e1, Int.toNat_natCast, show 0 + ws.length * 1 + q - ws.length = q by omega]
  exact h
 refine j8 999 [1, 1] rfl (jT 0 rfl (Val.moveP rfl) (jT 1 rfl (jr rfl) (jT 2 rfl (jn rfl) (jT 3 rfl (Val.loadS rfl (Rd.own1 0 rfl c0)) ?_))))
 refine jT 4 rfl (Val.moveP rfl) (jT 5 rfl (jr rfl) (jT 6 rfl (Val.loadS rfl (Rd.own1 0 rfl cf)) ?_))
 refine jT 7 rfl (Val.moveI rfl) (jT 8 rfl (jZ rfl rfl) (jT 9 rfl (Val.loadS rfl (Rd.slN 1 rfl _ _ hel)) ?_))
 refine j5 10 rfl (WL.callP [4, 4, 4, 4, 4, 4, 4] rfl rfl (hPlay D d s _ _ hN hD hG hx hfit hsl) rfl ?_)
 rintro _ I1 _ hI1 ⟨D1, hb1', rfl, (⟨d1, bs, ba, bn, rfl, hD1, hR, hbv⟩ | ⟨he, _⟩)⟩
 case inr => exact absurd hR9.err he
 change WL _ _ _ _ _ (_ ++ [docBox D1.b D1.A.b D1.mb D1.segs, mp D1.mb D1.f D1.cnt, _, _, _, _, _]) _
 refine jW ?_
 refine jC (j9 [1, 1] (hI1) rfl (jT 11 rfl (Val.moveT rfl) (jT 12 rfl (Val.extractS rfl rfl) (jT 13 rfl (jq rfl rfl) (jT 14 rfl (Val.assignS rfl) (jT 15 rfl (Val.assignI rfl) (j6 (jA (jB (jS (ja rfl (jz rfl rfl (jM (jE (jV (jK (jd rfl (jd rfl (jm (jr rfl) (jm (Val.loadS rfl (Rd.own1 1 rfl cf)) ?_))))))))))))))))))))
 refine ja rfl (jm (Val.sliceTo (m := ws.length) rfl rfl (by omega)) ?_)
 refine jm (jr rfl) (WL.storeAt 1 rfl rfl rfl rfl rfl hf1 ?_)
 refine WL.nSet ?_
 refine WL.slOut 2 rfl fun xs k1 k2 k3 k4 => ?_
 refine WL.nSet ?_
 refine WL.slIn (xs := cw.flatten) (sz := 1) (n := ws.length) (cap := sc) 2 rfl k1 (by omega) k4 (by
  have := congrArg (List.take (ws.length * 1)) k2
  rw [List.take_take, Nat.min_eq_left (by omega), List.take_append_of_le_length (by omega), List.take_of_length_le (l := cw.flatten) (by omega)] at this
  exact this) ?_
 have c1' : (cs.set f1 (.slice (some ⟨g, 0, none⟩) ws.length sc))[1]? = some (vi bnd) := by rw [List.getElem?_set, if_neg hn1]; exact c1
 have ct' : (cs.set f1 (.slice (some ⟨g, 0, none⟩) ws.length sc))[f2]? = some tv := by rw [List.getElem?_set, if_neg hne]; exact ct
 refine jN (jd rfl (jc rfl (jd rfl (jm (jr rfl) (jm (jn rfl) (jm (Val.loadS rfl (Rd.own1 1 rfl c1')) ?_))))))
 refine WL.callP [1, 2] rfl rfl (hPush _ f2 hb bnd rs bs tv _ pt _ ct' (hpt.mono hI1) hbv hrs hb1 hb2) rfl ?_
 rintro _ I2 _ hI2 ⟨rfl, tv', pt', rfl, hpt'⟩
 refine jW ?_
 refine jN (jf rfl (jM (jR ?_)))
 exact jP [8, 0, 7, 0, 0, 0, 0, 0, 0, 0] (jr1 rfl (jtI rfl)) (.inr ⟨ws, s, d1, bs, D1, _, tv', _, pt', rfl, rfl, hb1', rfl, hD1, hR, OwnL.mono ⟨cw, rfl, hw⟩ hI1, hpt'⟩)
def TurnR (H : Hm) (d : Dr) (us rs : List (List Cm)) (ws ns : List Dr) (fw : Bool) : Value → Mem → List HP → Prop := fun v I' L' => (us = [] ∧ v = vi 50 ∧ L' = Hm.hp H) ∨
 ∃ (H' : Hm) (u1 : List (List Cm)) (s : List Cm) (w : Dr) (w1 : List Dr) (bs : List Cm), us = u1 ++ [s] ∧ ws = w1 ++ [w] ∧ v = vi 0 ∧ H'.b = H.b ∧ H'.bnd = H.bnd ∧ L' = Hm.hp H' ∧
  if fw then HAbs I' H' w (keep H.bnd (rs ++ [bs])) u1 (keep H.bnd (ns ++ [d])) w1 else HAbs I' H' w u1 (keep H.bnd (rs ++ [bs])) w1 (keep H.bnd (ns ++ [d]))
theorem hUndo (H : Hm) (d : Dr) (us rs : List (List Cm)) (ws ns : List Dr) (I : Mem) (hN : NeedAt I) (hH : HAbs I H d us rs ws ns) : Ctr Tryz.prog 44 [ptr H.b] I (Hm.hp H) (TurnR H d us rs ws ns false) := by
 obtain ⟨b, D, bnd, uv, rv, up, rp⟩ := H
 have hb1 := hH.b1
 have hb2 := hH.b2
 have hul := hH.ul
 have hrl := hH.rl
 simp only at hb1 hb2 hul hrl
 refine Ctr.intro Tryz.func44 rfl rfl rfl fun E F => ?_
 change WC _ _ _ _ [F, box b 153 [ptr D.b, vi bnd, uv, rv], up, rp, docBox D.b D.A.b D.mb D.segs, mp D.mb D.f D.cnt, _, _, _, _, _] _
 refine jS (jf rfl (jM (jB (j8 999 [] rfl (jT 0 rfl (Val.moveP rfl) (jT 1 rfl (Val.moveP rfl) (jT 2 rfl (jr rfl) (jT 3 rfl (jn rfl) (jT 4 rfl (Val.moveP rfl) (jT 5 rfl (jr rfl) (jT 6 rfl (jn rfl) (j5 7 rfl ?_))))))))))))
 refine WL.callP [1, 1, 1, 1, 1, 1, 1, 1, 1, 1] rfl rfl (hTurn [ptr D.b, vi bnd, uv, rv] 2 3 b bnd D d us rs uv rv up rp _ hN hH.dab hH.good rfl rfl rfl rfl (by decide) (by decide) hH.u hH.r (by omega) (by omega) hb1 (by omega) (fun w1 s e => by
  have h1 := hH.cu
  rw [e] at h1
  obtain ⟨w, vs, s0, t, _, h2, h3, _⟩ := h1.top
  have h4 := hH.su s (by rw [e]; simp)
  exact ⟨h2.fits, by omega, _, _, h3⟩)) rfl ?_
 rintro _ I1 _ hI1 (⟨rfl, rfl, rfl⟩ | ⟨u1, s, d1, bs, D1, fv, tv, pf, pt, rfl, rfl, hbb, rfl, hD1, hR, hp1, hp2⟩)
 ·change WL _ _ _ _ _ (_ ++ [box b 153 [ptr D.b, vi bnd, uv, rv], up, rp, docBox D.b D.A.b D.mb D.segs, mp D.mb D.f D.cnt, _, _, _, _, _]) _
  refine jW ?_
  refine jC (j9 [] (hI1) rfl (jT 8 rfl (Val.assignI rfl) (j6 (jA (jR ?_)))))
  exact jP [0, 0, 0, 0, 0, 0, 0, 0, 0, 0] (jr1 rfl (jtI rfl)) (.inl ⟨rfl, rfl, rfl⟩)
 ·change WL _ _ _ _ _ (_ ++ [box b 153 [ptr D.b, vi bnd, fv, tv], pf, pt, docBox D1.b D1.A.b D1.mb D1.segs, mp D1.mb D1.f D1.cnt, _, _, _, _, _]) _
  refine jW ?_
  refine jC (j9 [] (hI1) rfl (jT 8 rfl (Val.assignI rfl) (j6 (jA (jR ?_)))))
  refine jP [0, 0, 0, 0, 0, 0, 0, 0, 0, 0] (jr1 rfl (jtI rfl)) ?_
  obtain ⟨w, vs, s0, t, rfl, h2, h3, h4⟩ := hH.cu.top
  obtain ⟨rfl, rfl⟩ := h3.uniq hR
  have h5 := hH.su s (by simp)
  refine .inr ⟨⟨b, D1, bnd, fv, tv, pf, pt⟩, u1, s, w, vs, t, rfl, rfl, rfl, rfl, rfl, by rw [Hm.hp, Hm.cs, ← hbb], ?_⟩
  rw [if_neg (by decide)]
  refine ⟨hD1, hR.good.2, hp1, hp2, h4, Chain.push _ hR hH.cr, ?_, ?_, fun x hx => hH.su x (List.mem_append_left _ hx), fun x hx => ?_, hb1, hb2⟩
  ·rw [List.length_append] at hul
   show u1.length ≤ bnd
   omega
  ·rw [keep_len]; exact Nat.min_le_left _ _
  ·rcases List.mem_append.1 (keep_mem hx) with hx | hx
   ·exact hH.sr x hx
   ·rw [List.mem_singleton.1 hx, hR.len]; exact h5
theorem hRedo (H : Hm) (d : Dr) (us rs : List (List Cm)) (ws ns : List Dr) (I : Mem) (hN : NeedAt I) (hH : HAbs I H d us rs ws ns) : Ctr Tryz.prog 51 [ptr H.b] I (Hm.hp H) (TurnR H d rs us ns ws true) := by
 obtain ⟨b, D, bnd, uv, rv, up, rp⟩ := H
 have hb1 := hH.b1
 have hb2 := hH.b2
 have hul := hH.ul
 have hrl := hH.rl
 simp only at hb1 hb2 hul hrl
 refine Ctr.intro Tryz.func51 rfl rfl rfl fun E F => ?_
 change WC _ _ _ _ [F, box b 153 [ptr D.b, vi bnd, uv, rv], up, rp, docBox D.b D.A.b D.mb D.segs, mp D.mb D.f D.cnt, _, _, _, _, _] _
 refine jS (jf rfl (jM (jB (j8 999 [] rfl (jT 0 rfl (Val.moveP rfl) (jT 1 rfl (Val.moveP rfl) (jT 2 rfl (jr rfl) (jT 3 rfl (jn rfl) (jT 4 rfl (Val.moveP rfl) (jT 5 rfl (jr rfl) (jT 6 rfl (jn rfl) (j5 7 rfl ?_))))))))))))
 refine WL.callP [1, 2, 1, 1, 1, 1, 1, 1, 1, 1] rfl rfl (hTurn [ptr D.b, vi bnd, uv, rv] 3 2 b bnd D d rs us rv uv rp up _ hN hH.dab hH.good rfl rfl rfl rfl (by decide) (by decide) hH.r hH.u (by omega) (by omega) hb1 (by omega) (fun w1 s e => by
  have h1 := hH.cr
  rw [e] at h1
  obtain ⟨w, vs, s0, t, _, h2, h3, _⟩ := h1.top
  have h4 := hH.sr s (by rw [e]; simp)
  exact ⟨h2.fits, by omega, _, _, h3⟩)) rfl ?_
 rintro _ I1 _ hI1 (⟨rfl, rfl, rfl⟩ | ⟨u1, s, d1, bs, D1, fv, tv, pf, pt, rfl, rfl, hbb, rfl, hD1, hR, hp1, hp2⟩)
 ·change WL _ _ _ _ _ (_ ++ [box b 153 [ptr D.b, vi bnd, uv, rv], rp, up, docBox D.b D.A.b D.mb D.segs, mp D.mb D.f D.cnt, _, _, _, _, _]) _
  refine jW ?_
  refine jC (j9 [] (hI1) rfl (jT 8 rfl (Val.assignI rfl) (j6 (jA (jR ?_)))))
  exact jP [0, 1, 0, 0, 0, 0, 0, 0, 0, 0] (jr1 rfl (jtI rfl)) (.inl ⟨rfl, rfl, rfl⟩)
 ·change WL _ _ _ _ _ (_ ++ [box b 153 [ptr D.b, vi bnd, tv, fv], pf, pt, docBox D1.b D1.A.b D1.mb D1.segs, mp D1.mb D1.f D1.cnt, _, _, _, _, _]) _
  refine jW ?_
  refine jC (j9 [] (hI1) rfl (jT 8 rfl (Val.assignI rfl) (j6 (jA (jR ?_)))))
  refine jP [0, 1, 0, 0, 0, 0, 0, 0, 0, 0] (jr1 rfl (jtI rfl)) ?_
  obtain ⟨w, vs, s0, t, rfl, h2, h3, h4⟩ := hH.cr.top
  obtain ⟨rfl, rfl⟩ := h3.uniq hR
  have h5 := hH.sr s (by simp)
  refine .inr ⟨⟨b, D1, bnd, tv, fv, pt, pf⟩, u1, s, w, vs, t, rfl, rfl, rfl, rfl, rfl, by rw [Hm.hp, Hm.cs, ← hbb], ?_⟩
  rw [if_pos rfl]
  refine ⟨hD1, hR.good.2, hp2, hp1, Chain.push _ hR hH.cu, h4, ?_, ?_, fun x hx => ?_, fun x hx => hH.sr x (List.mem_append_left _ hx), hb1, hb2⟩
  ·rw [keep_len]; exact Nat.min_le_left _ _
  ·rw [List.length_append] at hrl
   show u1.length ≤ bnd
   omega
  ·rcases List.mem_append.1 (keep_mem hx) with hx | hx
   ·exact hH.su x hx
   ·rw [List.mem_singleton.1 hx, hR.len]; exact h5
def errD (d : Dr) (l : List Cm) : Int := if l.length = 0 then 50 else if 64 < l.length then 36 else errS d l
def DoR (H : Hm) (d : Dr) (l : List Cm) (us rs : List (List Cm)) (ws ns : List Dr) : Value → Mem → List HP → Prop := fun v I' L' => ∃ H' : Hm, H'.b = H.b ∧ H'.bnd = H.bnd ∧ L' = Hm.hp H' ∧ v = vi (errD d l) ∧
 ((errD d l ≠ 0 ∧ HAbs I' H' d us rs ws ns) ∨ (errD d l = 0 ∧ ∃ d' bs, Run d l d' bs ∧ HAbs I' H' d' (keep H.bnd (us ++ [bs])) [] (keep H.bnd (ws ++ [d])) []))
theorem hDo (H : Hm) (d : Dr) (l : List Cm) (v : Value) (us rs : List (List Cm)) (ws ns : List Dr) (I : Mem) (hN : NeedAt I) (hH : HAbs I H d us rs ws ns) (hv : LsAt Cm.rep I l v) (hfit : l.length ≤ 64 → FitsS d l) :
  Ctr Tryz.prog 41 [ptr H.b, v] I (Hm.hp H) (DoR H d l us rs ws ns) := by
 obtain ⟨b, D, bnd, uv, rv, up, rp⟩ := H
 have hb1 := hH.b1
 have hb2 := hH.b2
 have hul := hH.ul
 have hrl := hH.rl
 simp only at hb1 hb2 hul hrl
 obtain ⟨la, lc, rfl⟩ := hv.sl
 refine Ctr.intro Tryz.func41 rfl rfl rfl fun E F => ?_
 change WC _ _ _ _ [F, box b 153 [ptr D.b, vi bnd, uv, rv], up, rp, docBox D.b D.A.b D.mb D.segs, mp D.mb D.f D.cnt, _, _, _, _, _] _
 by_cases h0 : l.length = 0
 ·skip
  refine jS (jf rfl (jM (jB (WC.block (jS (jc rfl (jm (jo rfl) (jw rfl rfl (jg rfl (jM (jF (jS (jf rfl (jM (jR (WX.inRet (jU ?_)))))))))))))))))
  refine jP [0, 0, 0, 0, 0, 0, 0, 0, 0, 0] (jr1 rfl (jtI rfl)) ?_
  have he : errD d l = 50 := by rw [errD, if_pos h0]
  exact ⟨⟨b, D, bnd, uv, rv, up, rp⟩, rfl, rfl, rfl, by rw [he], .inl ⟨by rw [he]; decide, hH⟩⟩
 by_cases h64 : 64 < l.length
 ·skip
  refine jS (jf rfl (jM (jB (WC.block (jS (jc rfl (jm (jo rfl) (jv rfl rfl (jg rfl (jM (jE (jS (jc rfl (jm (jo rfl) (jO rfl rfl (jg rfl (jM (jF (jS (jf rfl (jM (jR (WX.inRet (jU ?_))))))))))))))))))))))))
  refine jP [0, 0, 0, 0, 0, 0, 0, 0, 0, 0] (jr1 rfl (jtI rfl)) ?_
  have he : errD d l = 36 := by rw [errD, if_neg h0, if_pos h64]
  exact ⟨⟨b, D, bnd, uv, rv, up, rp⟩, rfl, rfl, rfl, by rw [he], .inl ⟨by rw [he]; decide, hH⟩⟩
 have hed : errD d l = errS d l := by rw [errD, if_neg h0, if_neg h64]
 refine jS (jf rfl (jM (jB (WC.block (jS (jc rfl (jm (jo rfl) (jv rfl rfl (jg rfl (jM (jE (jS (jc rfl (jm (jo rfl) (jL rfl rfl (jg rfl (jM (jE (jV (WX.inNormal (jK (jd rfl (jm (jr rfl) (jm (jn rfl) (jm (jp 1 rfl rfl rfl) (jc rfl (WL.callP [4, 4, 4, 4, 4, 4, 4] rfl rfl (hPlay D d l _ _ hN hH.dab hH.good hv (hfit (by omega)) (by omega)) rfl ?_)))))))))))))))))))))))))))
 rintro _ I1 _ hI1 ⟨D1, hbb, rfl, (⟨d1, bs, ba, bn, rfl, hD1, hR, hbv⟩ | ⟨he, rfl, hD1⟩)⟩
 case inr =>
  change WL _ _ _ _ _ (_ ++ [docBox D1.b D1.A.b D1.mb D1.segs, mp D1.mb D1.f D1.cnt, _, _, _, _, _]) _
  refine jW ?_
  refine je rfl (jm (Val.extractS rfl rfl) (jm (jq rfl rfl) (jh rfl (jf rfl (jM (jB (jS (ja rfl (jJ rfl rfl (jM (jF (jS (ja rfl (jf rfl (jM (jR (jU ?_)))))))))))))))))
  exact jP [0, 0, 0, 0, 0, 0, 0, 0, 0, 0] (jr1 rfl (jtI rfl)) ⟨⟨b, D1, bnd, uv, rv, up, rp⟩, rfl, rfl, by rw [Hm.hp, Hm.cs, ← hbb], by rw [hed], .inl ⟨by rw [hed]; exact he, ⟨hD1, hH.good, hH.u.mono hI1, hH.r.mono hI1, hH.cu, hH.cr, hul, hrl, hH.su, hH.sr, hb1, hb2⟩⟩⟩
 have he0 := hR.err
 change WL _ _ _ _ _ (_ ++ [docBox D1.b D1.A.b D1.mb D1.segs, mp D1.mb D1.f D1.cnt, _, _, _, _, _]) _
 refine jW ?_
 refine je rfl (jm (Val.extractS rfl rfl) (jm (jq rfl rfl) (jh rfl (jf rfl (jM (jB (jS (ja rfl (jz rfl rfl (jM (jE (jV (jA (jB (j8 999 [] rfl (jT 0 rfl (Val.moveP rfl) (jT 1 rfl (jr rfl) (jT 2 rfl (jn rfl) (jT 3 rfl (Val.moveS rfl) (jT 4 rfl (Val.moveP rfl) (jT 5 rfl (jr rfl) (jT 6 rfl (jn rfl) (j5 7 rfl (jm (jp 1 rfl rfl rfl) (jC (j7 [] rfl (j5 8 rfl (WL.callP [1, 1] rfl rfl (hPush [ptr D.b, vi bnd, uv, rv] 2 b bnd us bs uv _ up _ rfl (hH.u.mono hI1) hbv (by omega) hb1 (by omega)) rfl ?_))))))))))))))))))))))))))))
 rintro _ I2 _ hI2 ⟨rfl, uv', up', rfl, hu'⟩
 change WL _ _ _ _ _ (_ ++ [box b 153 [ptr D.b, vi bnd, uv', rv], up']) _
 refine jW ?_
 refine jC (j7 [] rfl (j6 (jK (jd rfl (jm (jr rfl) (jm (jn rfl) (WL.stS 9 rfl rfl rfl rfl ?_)))))))
 refine jN (jf rfl (jM (jR (WX.conv (fun w h => (h.sl_nil (e := 154) (sz := 1)).sub [1, 9, 9, 0, 1, 1, 1, 1, 1, 1, 1] rfl) ?_))))
 refine jP [0, 0, 0, 0, 0, 0, 0, 0, 0, 0] (jr1 rfl (jtI rfl)) ?_
 have h5 := hR.len
 refine ⟨⟨b, D1, bnd, uv', .slice none 0 0, up', _⟩, rfl, rfl, by rw [Hm.hp, Hm.cs, ← hbb], by rw [hed, he0], .inr ⟨by rw [hed, he0], d1, bs, hR, ⟨hD1, hR.good.2, hu', OwnL.nil _ _ _ _, Chain.push _ hR hH.cu, .nil, ?_, Nat.zero_le _, fun x hx => ?_, (fun x hx => nomatch hx), hb1, hb2⟩⟩⟩
 ·rw [keep_len]; exact Nat.min_le_left _ _
 ·rcases List.mem_append.1 (keep_mem hx) with hx | hx
  ·exact hH.su x hx
  ·rw [List.mem_singleton.1 hx, h5]; omega
end Go.Proofs.YtggcpoleklcmkaaGreatDoor

namespace Go.Hi
open Go.Sl Go.Ls Go.Tr Go.Dc
def shapeE (n : Int) : Ent := ⟨n, false, 0, plainAtr⟩
def shapeC (n : Int) : Cm := { Cm.z with kind := 1, ents := [shapeE n] }
structure Sh (d : Dr) (k : Nat) : Prop where
 top : ∃ ks, d.top = .mk 0 true ks ∧ Nd.sizes ks = k ∧ ∀ x ∈ Nd.orders ks, 1 ≤ x ∧ x ≤ (k : Int)
 segs : d.segs = 0
theorem Sh.new : Sh Dr.new 0 := ⟨⟨[], rfl, rfl, fun x h => nomatch h⟩, rfl⟩
theorem Sh.len {d : Dr} {k : Nat} (h : Sh d k) : d.entries.length = k := by
 obtain ⟨ks, h1, h2, _⟩ := h.top
 rw [Dr.entries, List.length_tail, ents_len, h1, Nd.size]
 omega
theorem shape_tk (n : Int) : Tk [shapeE n] = some (.mk n false [], []) := by
 rw [Tk_cons, if_neg (by show ¬ ((0 : Int) < 0 ∨ _ < (0 : Int)); simp)]
 rw [show (shapeE n).kids.toNat = 0 from rfl, Tks_zero]
 rfl
theorem Sh.step {d : Dr} {k : Nat} (h : Sh d k) (hk : k ≤ 1000) : (d.apply (shapeC ((k : Int) + 1))).2.2 = 0 ∧ Sh (d.apply (shapeC ((k : Int) + 1))).1 (k + 1) ∧ Fits (shapeC ((k : Int) + 1)) d := by
 obtain ⟨ks, h1, h2, h3⟩ := h.top
 have hs := h.segs
 have htk := shape_tk ((k : Int) + 1)
 have hW : Whole [shapeE ((k : Int) + 1)] := (Whole_iff _).2 ⟨_, htk⟩
 have hwr : firstWrong [shapeE ((k : Int) + 1)] = 0 := by
  rw [firstWrong, firstWrong, show (shapeE ((k : Int) + 1)).atr.check (shapeE ((k : Int) + 1)).grp = plainAtr.check false from rfl, if_neg (by decide)]
 have hsg : segsOf [shapeE ((k : Int) + 1)] = 0 := rfl
 have hadd : Nd.add d.top 0 0 (.mk ((k : Int) + 1) false []) = (.mk 0 true (.mk ((k : Int) + 1) false [] :: ks), 0) := by
  rw [h1]
  have hf : Nd.find 0 (.mk 0 true ks) = some (.mk 0 true ks) := Nd.find_top (.mk 0 true ks)
  have hfit : Nd.fits (.mk 0 true ks) (.mk ((k : Int) + 1) false []) (Nd.depth 0 (.mk 0 true ks) + 1) = 0 := by
   refine Nd.fits_zero ?_ (fun x hx => ?_) ?_ ?_ ?_
   ·show 1 + Nd.sizes ks + (1 + 0) ≤ 65537
    omega
   ·have hx : x ∈ [(k : Int) + 1] := hx
    rw [List.mem_singleton.1 hx]
    refine ⟨by omega, by omega, fun h4 => ?_⟩
    rw [Nd.order] at h4
    rcases List.mem_cons.1 h4 with h4 | h4
    ·omega
    ·have := (h3 _ h4).2; omega
   ·show ([(k : Int) + 1] : List Int).Nodup
    simp
   ·rw [Nd.Gp, Nd.All]
    exact ⟨fun e => absurd rfl e, trivial⟩
   ·rw [show Nd.depth 0 (.mk 0 true ks) = 0 by rw [Nd.depth, if_pos rfl]]
    rw [show (Nd.mk ((k : Int) + 1) false []).height = 1 from rfl]
    decide
  rw [Nd.add, hf]
  simp only
  rw [if_neg (by show ¬ (true = false); decide), if_neg (by show ¬ ((0 : Int) < 0 ∨ (ks.length : Int) < 0); omega), if_neg (fun e => e hfit)]
  congr 1
 have hents : (shapeC ((k : Int) + 1)).ents = [shapeE ((k : Int) + 1)] := rfl
 have hap : d.apply (shapeC ((k : Int) + 1)) = d.add (shapeC ((k : Int) + 1)) := by rw [Dr.apply]; exact if_pos rfl
 have hpa : (shapeC ((k : Int) + 1)).parent = 0 := rfl
 have hix : (shapeC ((k : Int) + 1)).index = 0 := rfl
 rw [hap, Dr.add, hents, hpa, hix, nodeOf_eq htk, if_neg (fun e => e hW), if_neg (fun e => e hwr), if_neg (by rw [hs, hsg]; decide), hadd, if_neg (fun e => e rfl)]
 refine ⟨rfl, ⟨⟨_, rfl, ?_, ?_⟩, ?_⟩, ?_, ?_⟩
 ·show Nd.size (.mk ((k : Int) + 1) false []) + Nd.sizes ks = k + 1
  show 1 + 0 + Nd.sizes ks = k + 1
  omega
 ·intro x hx
  have hx : x ∈ ((k : Int) + 1) :: Nd.orders ks := hx
  rcases List.mem_cons.1 hx with rfl | hx
  ·omega
  ·have := h3 x hx; omega
 ·show d.segs + 0 = 0
  omega
 ·show 1 ≤ 100000
  decide
 ·rw [hs, hents, hsg]; decide
def SW (ws : List Dr) (i : Nat) : Prop := ws.length ≤ i ∧ ∀ j w, ws[j]? = some w → Sh w (i + j - ws.length)
theorem SW.push {ws : List Dr} {i : Nat} {d : Dr} (n : Nat) (h : SW ws i) (hd : Sh d i) : SW (keep n (ws ++ [d])) (i + 1) := by
 obtain ⟨h1, h2⟩ := h
 have hl : (ws ++ [d]).length = ws.length + 1 := by rw [List.length_append]; rfl
 refine ⟨by rw [keep_len, hl]; omega, fun j w hj => ?_⟩
 rw [keep, hl, List.getElem?_drop] at hj
 rw [keep_len, hl]
 by_cases hlt : ws.length + 1 - n + j < ws.length
 ·rw [List.getElem?_append_left hlt] at hj
  have := h2 _ _ hj
  rwa [show i + (ws.length + 1 - n + j) - ws.length = i + 1 + j - min n (ws.length + 1) by omega] at this
 ·rw [List.getElem?_append_right (by omega)] at hj
  have h3 := (List.getElem?_eq_some_iff.1 hj).1
  have h4 : ws.length + 1 - n + j - ws.length = 0 := by simp at h3; omega
  rw [h4] at hj
  injection hj with hj
  subst hj
  rwa [show i + 1 + j - min n (ws.length + 1) = i by omega]
theorem SW.pop {ws : List Dr} {i : Nat} {w : Dr} (h : SW (ws ++ [w]) i) : Sh w (i - 1) ∧ SW ws (i - 1) := by
 obtain ⟨h1, h2⟩ := h
 have hl : (ws ++ [w]).length = ws.length + 1 := by rw [List.length_append]; rfl
 rw [hl] at h1 h2
 constructor
 ·have := h2 ws.length w (by rw [List.getElem?_append_right (Nat.le_refl _), Nat.sub_self]; rfl)
  rwa [show i + ws.length - (ws.length + 1) = i - 1 by omega] at this
 ·refine ⟨by omega, fun j v hj => ?_⟩
  have h3 := (List.getElem?_eq_some_iff.1 hj).1
  have := h2 j v (by rw [List.getElem?_append_left h3]; exact hj)
  rwa [show i + j - (ws.length + 1) = i - 1 + j - ws.length by omega] at this
end Go.Hi

namespace Go.Hi
open Go.Sl Go.Ls Go.Tr Go.Dc
theorem Sh.run {d d' : Dr} {k : Nat} {bs : List Cm} (h : Sh d k) (hk : k ≤ 1000) (hr : Run d [shapeC ((k : Int) + 1)] d' bs) : Sh d' (k + 1) := by
 cases hr with
 | cons _ _ hr =>
  cases hr with
  | nil _ => exact (h.step hk).2.1
theorem Sh.err {d : Dr} {k : Nat} (h : Sh d k) (hk : k ≤ 1000) : errS d [shapeC ((k : Int) + 1)] = 0 := by
 rw [errS, errS, if_neg (fun e => e (h.step hk).1)]
theorem Sh.fits {d : Dr} {k : Nat} (h : Sh d k) (hk : k ≤ 1000) : FitsS d [shapeC ((k : Int) + 1)] := ⟨(h.step hk).2.2, fun _ => trivial⟩
end Go.Hi
namespace Go.Proofs.YtggcpoleklcmkaaGreatDoor
open Go.Sl Go.Ls Go.Tr Go.Dc Go.Hi
instance : PtK Tryz.prog 93 := ⟨by kernel_rfl⟩
theorem HAbs.mono {I I' : Mem} {H : Hm} {d : Dr} {us rs : List (List Cm)} {ws ns : List Dr} (h : HAbs I H d us rs ws ns) (hI : I.le I') : HAbs I' H d us rs ws ns := ⟨h.dab.mono hI, h.good, h.u.mono hI, h.r.mono hI, h.cu, h.cr, h.ul, h.rl, h.su, h.sr, h.b1, h.b2⟩
theorem shape_ctr (n : Int) (I : Mem) (h64 : I64 n) : Ctr Tryz.prog 42 [vi n] I [] (fun v I' L' => L' = [] ∧ ∃ g, v = .agg ((shapeC n).cs (.slice (some ⟨g, 0, none⟩) 1 1) (.slice none 0 0) (.slice none 0 0) (.slice none 0 0) (.slice none 0 0)).toArray ∧ (shapeC n).at_ I' (.slice (some ⟨g, 0, none⟩) 1 1) (.slice none 0 0) (.slice none 0 0) (.slice none 0 0) (.slice none 0 0)) := by
 refine Ctr.intro Tryz.func42 rfl rfl rfl fun E F => ?_
 refine jS (WL.alloc rfl (fun _ => ?_))
 refine jW ?_
 refine jN (ja rfl ?_)
 rename_i g2
 refine WL.callS rfl rfl (one_ctr _) rfl ?_
 rintro _ rfl
 skip
 refine WL.callS rfl rfl (none_ctr _) rfl ?_
 rintro _ rfl
 skip
 refine jm (Val.build (cs := (plainAtr.cs (.slice none 0 0) (.slice none 0 0) (.slice none 0 0) (.slice none 0 0))) rfl) ?_
 refine jm (Val.build (cs := (Ent.cs (shapeE n) (.slice none 0 0) (.slice none 0 0) (.slice none 0 0) (.slice none 0 0))) rfl) ?_
 refine WL.buildSlice (by with_unfolding_all exact rfl) rfl (by with_unfolding_all exact rfl) rfl (fun _ => ?_)
 refine jW ?_
 rename_i g8
 refine WL.boxSl (e := 69) (sz := 37) (n := 1) 2 rfl rfl (by decide) ?_
 refine WL.freezeL (R := Ent.rep) (l := [shapeE n]) 2 rfl ⟨[_], rfl, ⟨_, _, _, _, rfl, ⟨h64, i64z, plain_at _⟩⟩, trivial⟩ fun I2 hI2 hv => ?_
 refine jm (Val.build (cs := (Cm.cs (shapeC n) (.slice (some ⟨g8, 0, none⟩) 1 1) (.slice none 0 0) (.slice none 0 0) (.slice none 0 0) (.slice none 0 0))) rfl) ?_
 refine WL.stA 1 rfl rfl rfl rfl ?_
 refine jM (jR ?_)
 exact jP [] (jr1 rfl (jcL 1 rfl rfl rfl)) ⟨rfl, g8, rfl, ⟨⟨by show (_ : Int) ≤ 1; decide, by show (1 : Int) ≤ _; decide⟩, i64z, i64z, i64z, i64z, i64z, i64z, hv, Atr.z_at _, Sg.z_ok, Pt.z_ok⟩⟩
attribute [local irreducible] WC WL WX WK WA WAK Val Ctr RunRes ResIs Rd At sl box pt Exit.then Exit.inBlock bodyPost Code.wp wpList
theorem hAwake (I : Mem) (hN : NeedAt I) : Ctr Tryz.prog 39 [] I [] (KeepR [] fun v _ => v = .bool true) := by
 refine Ctr.intro Tryz.func39 rfl rfl rfl fun E F => ?_
 refine jS (jg rfl (jN (WL.callP [] rfl rfl (hNew 5 _ ⟨by omega, by omega⟩) rfl ?_)))
 rintro _ I1 _ _ ⟨rfl, (⟨h, _⟩ | ⟨_, _, H0, rfl, hb0, rfl, hH0⟩)⟩
 case inl => omega
 have hb5 : H0.bnd = 5 := by omega
 change WL _ _ _ _ _ (_ ++ [_, _, _, _, _, _, _, _, _, _]) _
 refine jW ?_
 refine ji rfl (jN (jd rfl (jm (Val.neqNilP rfl) ?_)))
 refine jb rfl (jG (jd rfl (jG (WL.callP [] rfl rfl (shape_ctr 1 _ ⟨by omega, by omega⟩) rfl ?_))))
 rintro _ I2 _ hI2 ⟨rfl, g1, rfl, hc1⟩
 refine jW ?_
 refine jG (WL.buildSlice (by with_unfolding_all exact rfl) rfl (by with_unfolding_all exact rfl) rfl (fun _ => ?_))
 refine jW ?_
 refine jG (WL.boxSl (e := 59) (sz := 51) (n := 1) 11 rfl rfl (by decide) ?_)
 refine WL.freezeL (R := Cm.rep) (l := [shapeC 1]) 11 rfl ⟨[_], rfl, ⟨_, _, _, _, _, rfl, hc1⟩, trivial⟩ fun I3 hI3 hv1 => ?_
 have hf1 : FitsS Dr.new [shapeC 1] := Sh.new.fits (by omega)
 have he1 : errD Dr.new [shapeC 1] = 0 := Sh.new.err (by omega)
 refine WL.callP [1, 1, 1, 1, 1, 1, 1, 1, 1, 1] rfl rfl (hDo H0 _ [shapeC 1] _ _ _ _ _ _ ((hN.mono hI2).mono hI3) ((hH0.mono hI2).mono hI3) hv1 (fun _ => hf1)) rfl ?_
 rintro _ I4 _ hI4 ⟨H1, hb1, hbn1, rfl, rfl, hQ1⟩
 obtain ⟨d1, bs1, hr1, hH1⟩ := (hQ1.resolve_left fun h => h.1 he1).2
 rw [he1, ← hb1]
 change WL _ _ _ _ _ (_ ++ [_, _, _, _, _, _, _, _, _, _]) _
 refine jW ?_
 have hS1 : Sh d1 1 := Sh.new.run (by omega) hr1
 refine jG (jw rfl rfl (jk rfl (jb rfl (jG (jd rfl (jG (WL.callP [] rfl rfl (shape_ctr 2 _ ⟨by omega, by omega⟩) rfl ?_)))))))
 rintro _ I5 _ hI5 ⟨rfl, g2, rfl, hc2⟩
 refine jW ?_
 refine jG (WL.buildSlice (by with_unfolding_all exact rfl) rfl (by with_unfolding_all exact rfl) rfl (fun _ => ?_))
 refine jW ?_
 refine jG (WL.boxSl (e := 59) (sz := 51) (n := 1) 11 rfl rfl (by decide) ?_)
 refine WL.freezeL (R := Cm.rep) (l := [shapeC 2]) 11 rfl ⟨[_], rfl, ⟨_, _, _, _, _, rfl, hc2⟩, trivial⟩ fun I6 hI6 hv2 => ?_
 have hf2 : FitsS d1 [shapeC 2] := hS1.fits (by omega)
 have he2 : errD d1 [shapeC 2] = 0 := hS1.err (by omega)
 refine WL.callP [1, 1, 1, 1, 1, 1, 1, 1, 1, 1] rfl rfl (hDo H1 _ [shapeC 2] _ _ _ _ _ _ (((hN.mono (hI2.trans (hI3.trans hI4))).mono hI5).mono hI6) ((hH1.mono hI5).mono hI6) hv2 (fun _ => hf2)) rfl ?_
 rintro _ I7 _ hI7 ⟨H2, hb2, hbn2, rfl, rfl, hQ2⟩
 obtain ⟨d2, bs2, hr2, hH2⟩ := (hQ2.resolve_left fun h => h.1 he2).2
 rw [he2, ← hb2]
 change WL _ _ _ _ _ (_ ++ [_, _, _, _, _, _, _, _, _, _]) _
 refine jW ?_
 have hS2 : Sh d2 2 := hS1.run (by omega) hr2
 have hN7 := hN.mono (hI2.trans (hI3.trans (hI4.trans (hI5.trans (hI6.trans hI7)))))
 have k1 : keep H0.bnd ([] ++ [bs1]) = [bs1] := keep_all (by rw [hb5]; show 1 ≤ 5; decide)
 have k2 : keep H0.bnd ([] ++ [Dr.new]) = [Dr.new] := keep_all (by rw [hb5]; show 1 ≤ 5; decide)
 have k3 : keep H1.bnd ([bs1] ++ [bs2]) = [bs1] ++ [bs2] := keep_all (by rw [hbn1, hb5]; show 2 ≤ 5; decide)
 have k4 : keep H1.bnd ([Dr.new] ++ [d1]) = [Dr.new] ++ [d1] := keep_all (by rw [hbn1, hb5]; show 2 ≤ 5; decide)
 rw [k1, k2, k3, k4] at hH2
 refine jG (jw rfl rfl (jk rfl (jb rfl (jG (jd rfl (jG (WL.callP [1, 1, 1, 1, 1, 1, 1, 1, 1, 1] rfl rfl (hUndo H2 _ _ _ _ _ _ hN7 hH2) rfl ?_)))))))
 rintro _ I8 _ hI8 (⟨h, _⟩ | ⟨H3, u1, s, w, w1, bs, e1, e2, rfl, hb3, hbn3, rfl, hH3⟩)
 case inl => exact absurd h (by simp)
 obtain ⟨rfl, e1⟩ := List.append_inj' e1 rfl
 obtain ⟨rfl, e2⟩ := List.append_inj' e2 rfl
 cases e1
 cases e2
 rw [if_neg (by decide)] at hH3
 have k5 : keep H2.bnd ([] ++ [bs]) = [] ++ [bs] := keep_all (by rw [hbn2, hbn1, hb5]; show 1 ≤ 5; decide)
 have k6 : keep H2.bnd ([] ++ [d2]) = [] ++ [d2] := keep_all (by rw [hbn2, hbn1, hb5]; show 1 ≤ 5; decide)
 rw [k5, k6] at hH3
 rw [← hb3]
 change WL _ _ _ _ _ (_ ++ [_, _, _, _, _, _, _, _, _, _]) _
 refine jW ?_
 have hN8 := hN7.mono hI8
 refine jG (jw rfl rfl (jk rfl (jb rfl (jG (jd rfl (jG (WL.callP [1, 1, 1, 1, 1, 1, 1, 1, 1, 1] rfl rfl (hDoc H3 _ _ _ _ _ _ hH3) rfl ?_)))))))
 rintro _ I9 _ _ ⟨rfl, Da, rfl, rfl, hDa⟩
 change WL _ _ _ _ _ (_ ++ [_, _, _, _, _, _, _, _, _, _, _, _, _, _, _, _, _]) _
 refine jW ?_
 refine jG (WL.callR [11, 11, 11, 11, 11, 11, 11] rfl rfl rfl (dEntries Da d1 _ hDa) rfl ?_)
 rintro v1 I10 hI10 hv1
 obtain ⟨a1, c1, rfl⟩ := hv1.sl
 rw [hS1.len]
 refine jG (jm (jo rfl) (jG (jw rfl rfl (jk rfl (jb rfl (jG (jd rfl (jG (WL.callP [1, 1, 1, 1, 1, 1, 1, 1, 1, 1] rfl rfl (hRedo H3 _ _ _ _ _ _ (hN8.mono hI10) (hH3.mono hI10)) rfl ?_)))))))))
 rintro _ I11 _ hI11 (⟨h, _⟩ | ⟨H4, u2, s2, w2, w3, bs4, e1, e2, rfl, hb4, hbn4, rfl, hH4⟩)
 case inl => exact absurd h (by simp)
 obtain ⟨rfl, e1⟩ := List.append_inj' e1 rfl
 obtain ⟨rfl, e2⟩ := List.append_inj' e2 rfl
 cases e1
 cases e2
 rw [if_pos rfl] at hH4
 have k7 : keep H3.bnd ([bs1] ++ [bs4]) = [bs1] ++ [bs4] := keep_all (by rw [hbn3, hbn2, hbn1, hb5]; show 2 ≤ 5; decide)
 rw [k7] at hH4
 rw [← hb4]
 change WL _ _ _ _ _ (_ ++ [_, _, _, _, _, _, _, _, _, _]) _
 refine jW ?_
 refine jG (jw rfl rfl (jk rfl (jb rfl (jG (jd rfl (jG (WL.callP [8, 8, 8, 8, 8, 8, 8, 8, 8, 8] rfl rfl (hDoc H4 _ _ _ _ _ _ hH4) rfl ?_)))))))
 rintro _ I12 _ _ ⟨rfl, Db, rfl, rfl, hDb⟩
 change WL _ _ _ _ _ (_ ++ [_, _, _, _, _, _, _, _, _, _, _, _, _, _, _, _, _]) _
 refine jW ?_
 refine jG (WL.callR [18, 18, 18, 18, 18, 18, 18] rfl rfl rfl (dEntries Db d2 _ hDb) rfl ?_)
 rintro v2 I13 hI13 hv2
 obtain ⟨a2, c2, rfl⟩ := hv2.sl
 rw [hS2.len]
 refine jG (jm (jo rfl) (jG (jw rfl rfl (jk rfl (jb rfl (jG (jd rfl (jG (WL.callK [8, 8, 8, 8, 8, 8, 8, 8, 8, 8] rfl rfl rfl (hUndos H4 _ _ _ _ _ _ (hH4.mono hI13)) rfl ?_)))))))))
 rintro _ rfl
 refine jG (jm (Val.eql rfl rfl rfl) ?_)
 refine jk rfl (jg rfl (jM (jR ?_)))
 have hJ := hI2.trans (hI3.trans (hI4.trans (hI5.trans (hI6.trans (hI7.trans (hI8.trans (hI10.trans (hI11.trans hI13))))))))
 exact jP [] (jr1 rfl (jtB rfl)) ⟨rfl, rfl⟩
theorem hBound (bound n : Int) (I : Mem) (hN : NeedAt I) (hb64 : I64 bound) (hn64 : I64 n) : Ctr Tryz.prog 10 [vi bound, vi n] I [] (KeepR [] fun v _ => v = .bool true) := by
 obtain ⟨i1, i2⟩ := hb64
 obtain ⟨i3, i4⟩ := hn64
 refine Ctr.intro Tryz.func10 rfl rfl rfl fun E F => ?_
 by_cases h1 : bound < 1
 ·skip
  refine jS (jg rfl (jM (jB (jS (ja rfl (jy rfl rfl (jb rfl (jH (jH (jk rfl (jb rfl (jH (jH (jk rfl (jb rfl (jH (jH (jk rfl (jM (jF (jS (WL.callP [] rfl rfl (hAwake _ hN) rfl ?_))))))))))))))))))))))
  rintro _ I2 _ hI2 ⟨rfl, rfl⟩
  refine jW ?_
  refine jg rfl (jM (jR (jU ?_)))
  exact jP [] (jr1 rfl (jtB rfl)) ⟨rfl, rfl⟩
 by_cases h2 : 40 < bound
 ·skip
  refine jS (jg rfl (jM (jB (jS (ja rfl (jx rfl rfl (jb rfl (jG (ja rfl (jG (jO rfl rfl (jk rfl (jb rfl (jH (jH (jk rfl (jb rfl (jH (jH (jk rfl (jM (jF (jS (WL.callP [] rfl rfl (hAwake _ hN) rfl ?_))))))))))))))))))))))))
  rintro _ I2 _ hI2 ⟨rfl, rfl⟩
  refine jW ?_
  refine jg rfl (jM (jR (jU ?_)))
  exact jP [] (jr1 rfl (jtB rfl)) ⟨rfl, rfl⟩
 by_cases h3 : n < 0
 ·skip
  refine jS (jg rfl (jM (jB (jS (ja rfl (jx rfl rfl (jb rfl (jG (ja rfl (jG (jL rfl rfl (jk rfl (jb rfl (jG (ja rfl (jG (jy rfl rfl (jk rfl (jb rfl (jH (jH (jk rfl (jM (jF (jS (WL.callP [] rfl rfl (hAwake _ hN) rfl ?_))))))))))))))))))))))))))
  rintro _ I2 _ hI2 ⟨rfl, rfl⟩
  refine jW ?_
  refine jg rfl (jM (jR (jU ?_)))
  exact jP [] (jr1 rfl (jtB rfl)) ⟨rfl, rfl⟩
 by_cases h4 : 60 < n
 ·skip
  refine jS (jg rfl (jM (jB (jS (ja rfl (jx rfl rfl (jb rfl (jG (ja rfl (jG (jL rfl rfl (jk rfl (jb rfl (jG (ja rfl (jG (jx rfl rfl (jk rfl (jb rfl (jG (ja rfl (jG (jO rfl rfl (jk rfl (jM (jF (jS (WL.callP [] rfl rfl (hAwake _ hN) rfl ?_))))))))))))))))))))))))))))
  rintro _ I2 _ hI2 ⟨rfl, rfl⟩
  refine jW ?_
  refine jg rfl (jM (jR (jU ?_)))
  exact jP [] (jr1 rfl (jtB rfl)) ⟨rfl, rfl⟩
 obtain ⟨b, rfl⟩ : ∃ b : Nat, bound = b := ⟨bound.toNat, by omega⟩
 obtain ⟨m, rfl⟩ : ∃ m : Nat, n = m := ⟨n.toNat, by omega⟩
 refine jS (jg rfl (jM (jB (jS (ja rfl (jx rfl rfl (jb rfl (jG (ja rfl (jG (jL rfl rfl (jk rfl (jb rfl (jG (ja rfl (jG (jx rfl rfl (jk rfl (jb rfl (jG (ja rfl (jG (jL rfl rfl (jk rfl (jM (jE (jV (jK (ja rfl (WL.callP [] rfl rfl (hNew b _ ⟨i1, i2⟩) rfl ?_))))))))))))))))))))))))))))))
 rintro _ I1 _ _ ⟨rfl, (⟨h, _⟩ | ⟨_, _, H0, rfl, hb0, rfl, hH0⟩)⟩
 case inl => omega
 have hb5 : H0.bnd = b := by omega
 change WL _ _ _ _ _ (_ ++ [_, _, _, _, _, _, _, _, _, _]) _
 refine jW ?_
 refine ji rfl (jM (jB (jS (jd rfl (jm (Val.eqlNilP rfl) ?_)))))
 refine jM (jE (jV (jA (jB (jS (ja rfl (ja rfl (jM (WC.block ?_)))))))))
 refine WC.loop (fun r ρ' I' L' => ∃ (k : Nat) (H : Hm) (d : Dr) (us : List (List Cm)) (ws : List Dr), r = m - k ∧ k ≤ m ∧ I1.le I' ∧ ρ' 0 = vi b ∧ ρ' 1 = vi m ∧ ρ' 5 = ptr H.b ∧ ρ' 26 = vi m ∧ ρ' 27 = vi k ∧ L' = F :: Hm.hp H ∧ H.bnd = b ∧ HAbs I' H d us [] ws [] ∧ Sh d k ∧ SW ws k ∧ us.length = min k b)
  m ⟨0, H0, Dr.new, [], [], rfl, Nat.zero_le _, Mem.le.refl _, rfl, rfl, rfl, rfl, rfl, rfl, hb5, hH0, Sh.new, ⟨Nat.zero_le _, fun j w h => by simp at h⟩, by simp⟩ ?_
 clear hH0 hb5 hb0
 rintro r ρ' I2 L' ⟨k, H, d, us, ws, rfl, hk, hI2, r0, r1, r5, r26, r27, rfl, hbn, hH, hS, hW, hul⟩
 refine ju5 r27 r26 r5 r1 r0 ?_
 change WC _ _ _ _ [F, _, _, _, _, _, _, _, _, _, _] _
 have hN2 := hN.mono hI2
 by_cases hkm : k < m
 ·skip
  refine jS (jy rfl rfl (jM (jB (jF (jV (jA (jB (WC.block (jS (ja rfl (jf rfl (jN (jd rfl (ja rfl (jX rfl rfl (WL.callP [] rfl rfl (shape_ctr ((k : Int) + 1) _ ⟨by omega, by omega⟩) rfl ?_))))))))))))))))
  rintro _ I3 _ hI3 ⟨rfl, g, rfl, hc⟩
  refine jW ?_
  refine WL.buildSlice (by with_unfolding_all exact rfl) rfl (by with_unfolding_all exact rfl) rfl (fun _ => ?_)
  refine jW ?_
  refine WL.boxSl (e := 59) (sz := 51) (n := 1) 11 rfl rfl (by decide) ?_
  refine WL.freezeL (R := Cm.rep) (l := [shapeC ((k : Int) + 1)]) 11 rfl ⟨[_], rfl, ⟨_, _, _, _, _, rfl, hc⟩, trivial⟩ fun I4 hI4 hv => ?_
  have hf := hS.fits (by omega)
  have he : errD d [shapeC ((k : Int) + 1)] = 0 := hS.err (by omega)
  refine WL.callP [1, 1, 1, 1, 1, 1, 1, 1, 1, 1] rfl rfl (hDo H _ [shapeC ((k : Int) + 1)] _ _ _ _ _ _ ((hN2.mono hI3).mono hI4) ((hH.mono hI3).mono hI4) hv (fun _ => hf)) rfl ?_
  rintro _ I5 _ hI5 ⟨H1, hb1, hbn1, rfl, rfl, hQ⟩
  obtain ⟨d1, bs, hr, hH1⟩ := (hQ.resolve_left fun h => h.1 he).2
  rw [he, ← hb1]
  change WL _ _ _ _ _ (_ ++ [_, _, _, _, _, _, _, _, _, _]) _
  refine jW ?_
  have hS1 := hS.run (by omega) hr
  have hW1 := SW.push H.bnd hW hS
  have hl1 : (keep H.bnd (us ++ [bs])).length = min (k + 1) b := by rw [keep_len, hbn, List.length_append, hul]; show min b (min k b + 1) = _; omega
  generalize keep H.bnd (us ++ [bs]) = us1 at hH1 hl1
  generalize keep H.bnd (ws ++ [d]) = ws1 at hH1 hW1
  refine jz rfl rfl (jb rfl (jG (jd rfl (jG (WL.callK [1, 1, 1, 1, 1, 1, 1, 1, 1, 1] rfl rfl rfl (hUndos H1 _ _ _ _ _ _ hH1) rfl ?_)))))
  rintro _ rfl
  refine jG (ja rfl (jG (jX rfl rfl (jG (ja rfl (jG (jm (Val.minI rfl rfl) ?_)))))))
  exact jG (jz rfl rfl (jk rfl (jM (jE (jV (WX.inNormal (jA (jD (jX rfl rfl (ja rfl (jC (WX.thenK (WK.round (m - (k + 1)) (by omega) ⟨k + 1, H1, d1, us1, ws1, rfl, by omega, hI2.trans (hI3.trans (hI4.trans hI5)), rfl, rfl, rfl, rfl, rfl, rfl, hbn1.trans hbn, hH1, hS1, hW1, hl1⟩)))))))))))))
 have hkl : k = m := by omega
 subst hkl
 refine jS (jx rfl rfl (jM (jB (jE (WC.exit (WX.thenExit (WX.thenExit (WX.inHit (jA (jB (jS (ja rfl (ja rfl (jm (Val.minI rfl rfl) ?_))))))))))))))
 refine ja rfl (jM (WC.block ?_))
 refine WC.loop (fun r ρ' I' L' => ∃ (j : Nat) (H : Hm) (d : Dr) (us rs : List (List Cm)) (ws ns : List Dr), r = min k b - j ∧ j ≤ min k b ∧ I1.le I' ∧ ρ' 0 = vi b ∧ ρ' 1 = vi k ∧ ρ' 5 = ptr H.b ∧ ρ' 49 = vi (min (k : Int) b) ∧ ρ' 50 = vi j ∧ L' = F :: Hm.hp H ∧ H.bnd = b ∧ HAbs I' H d us rs ws ns ∧ Sh d (k - j) ∧ SW ws (k - j) ∧ us.length = min k b - j ∧ rs.length = j)
  (min k b) ⟨0, H, d, us, [], ws, [], rfl, Nat.zero_le _, hI2, rfl, rfl, rfl, rfl, rfl, rfl, hbn, hH, hS, hW, hul, rfl⟩ ?_
 clear hH hS hW hul hbn hN2 hI2
 rintro r ρ' I3 L' ⟨j, H1, d1, us1, rs, ws1, ns, rfl, hj, hI3, r0, r1, r5, r49, r50, rfl, hbn, hH, hS, hW, hul, hrl⟩
 refine ju5 r50 r49 r5 r1 r0 ?_
 change WC _ _ _ _ [F, _, _, _, _, _, _, _, _, _, _] _
 have hN3 := hN.mono hI3
 by_cases hjm : j < min k b
 ·skip
  refine jS (jy rfl rfl (jM (jB (jF (jV (jA (jB (WC.block (jS (jd rfl (WL.callP [1, 1, 1, 1, 1, 1, 1, 1, 1, 1] rfl rfl (hUndo H1 _ _ _ _ _ _ hN3 hH) rfl ?_)))))))))))
  rintro _ I4 _ hI4 (⟨h, _⟩ | ⟨H2, u1, s, w, w1, bs, e1, e2, rfl, hb2, hbn2, rfl, hH2⟩)
  case inl => rw [h] at hul; simp at hul; omega
  rw [if_neg (by decide)] at hH2
  rw [e2] at hW
  obtain ⟨hS2, hW2⟩ := hW.pop
  rw [show k - j - 1 = k - (j + 1) by omega] at hS2 hW2
  have hul2 : u1.length = min k b - (j + 1) := by rw [e1, List.length_append] at hul; simp at hul; omega
  have hrl2 : (keep H1.bnd (rs ++ [bs])).length = j + 1 := by rw [keep_len, List.length_append, hrl, hbn]; show min b (j + 1) = _; omega
  rw [← hb2]
  change WL _ _ _ _ _ (_ ++ [_, _, _, _, _, _, _, _, _, _]) _
  refine jW ?_
  exact jz rfl rfl (jM (jE (jV (WX.inNormal (jA (jD (jX rfl rfl (ja rfl (jC (WX.thenK (WK.round (min k b - (j + 1)) (by omega) ⟨j + 1, H2, w, u1, _, w1, _, rfl, by omega, hI3.trans hI4, rfl, rfl, rfl, rfl, rfl, rfl, hbn2.trans hbn, hH2, hS2, hW2, hul2, hrl2⟩)))))))))))
 have hjl : j = min k b := by omega
 have hu0 : us1 = [] := List.eq_nil_of_length_eq_zero (by omega)
 refine jS (jx rfl rfl (jM (jB (jE (WC.exit (WX.thenExit (WX.thenExit (WX.inHit (jK (jd rfl (WL.callP [1, 1, 1, 1, 1, 1, 1, 1, 1, 1] rfl rfl (hUndo H1 _ _ _ _ _ _ hN3 hH) rfl ?_)))))))))))
 rintro _ I4 _ hI4 (⟨_, rfl, rfl⟩ | ⟨_, u1, s, _, _, _, e1, _⟩)
 case inr => rw [hu0] at e1; simp at e1
 change WL _ _ _ _ _ (_ ++ [_, _, _, _, _, _, _, _, _, _]) _
 refine jW ?_
 refine jw rfl rfl (jb rfl (jG (jd rfl (jG (WL.callP [1, 1, 1, 1, 1, 1, 1, 1, 1, 1] rfl rfl (hDoc H1 _ _ _ _ _ _ (hH.mono hI4)) rfl ?_)))))
 rintro _ I5 _ _ ⟨rfl, Da, rfl, rfl, hDa⟩
 change WL _ _ _ _ _ (_ ++ [_, _, _, _, _, _, _, _, _, _, _, _, _, _, _, _, _]) _
 refine jW ?_
 refine jG (WL.callR [11, 11, 11, 11, 11, 11, 11] rfl rfl rfl (dEntries Da d1 _ hDa) rfl ?_)
 rintro v1 I6 hI6 hv1
 have hlen := hS.len
 obtain ⟨a1, c1, rfl⟩ := hv1.sl
 rw [hlen]
 refine jG (jm (jo rfl) (jG (ja rfl (jG (ja rfl (jG (ja rfl (jG (jm (Val.minI rfl rfl) ?_)))))))))
 refine jG (jm (Val.sub rfl rfl (wrap_i64 (by omega) (by omega))) ?_)
 refine jG (jw rfl rfl (jk rfl (jb rfl (jG (jd rfl (jG (WL.callK [1, 1, 1, 1, 1, 1, 1, 1, 1, 1] rfl rfl rfl (hRedos H1 _ _ _ _ _ _ ((hH.mono hI4).mono hI6)) rfl ?_)))))))
 rintro _ rfl
 refine jG (ja rfl (jG (ja rfl (jG (jm (Val.minI rfl rfl) ?_)))))
 refine jG (jw rfl rfl (jk rfl (jb rfl (jG (WL.callP [] rfl rfl (hAwake _ ((hN3.mono hI4).mono hI6)) rfl ?_)))))
 rintro _ I7 _ hI7 ⟨rfl, rfl⟩
 refine jW ?_
 refine jk rfl (jg rfl (jM (jR ?_)))
 have hJ := hI3.trans (hI4.trans (hI6.trans hI7))
 exact jP [] (jr1 rfl (jtB rfl)) ⟨rfl, rfl⟩
end Go.Proofs.YtggcpoleklcmkaaGreatDoor
