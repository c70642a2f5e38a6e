/-
  Tree, the program's: what each question is answered, of an arena that is a tree.
-/
import Derived.Test.YtggcpoleklcmkaaGreatDoorY3
import Derived.Test.YtggcpoleklcmkaaGreatDoorX3
import Derived.Test.YtggcpoleklcmkaaGreatDoorX2
import Derived.Test.YtggcpoleklcmkaaGreatDoorY2
import Derived.Test.YtggcpoleklcmkaaGreatDoorX5
namespace Go.Tr
open Go.Sl Go.Ls
section
variable {A : Ar} {top : Nd}
theorem Abs.find (h : Abs A top) (i : Int) : (A.at_ i).isSome = (Nd.find i top).isSome ∧ ∀ n : Nat, A.at_ i = some (n : Int) → ∃ p, Tr A p n ((Nd.find i top).getD Nd.zero) := by
  refine ⟨by rw [Bool.eq_iff_iff, h.at_iff, Nd.find_some], fun n hn => ?_⟩
  obtain ⟨hm, hid, _⟩ := h.at_mem hn
  obtain ⟨qp, np, R, RO, f⟩ := h.foc hm
  have : np.id = i := by rw [← f.id, hid]
  rw [← this, f.find]
  exact ⟨qp, f.tr⟩
theorem Abs.fsize (h : Abs A top) (i : Int) : ((Nd.find i top).getD Nd.zero).size ≤ 100000 := by
  have := h.size_le
  cases hf : Nd.find i top with
  | none => show Nd.zero.size ≤ _; rw [show Nd.zero.size = 1 from rfl]; omega
  | some m => have := Nd.find_size i top m hf; show m.size ≤ _; omega
end
end Go.Tr
namespace Go.Proofs.YtggcpoleklcmkaaGreatDoor
open Go.Sl Go.Ls Go.Tr
set_option maxRecDepth 100000
set_option maxHeartbeats 4000000
set_option linter.unusedVariables false
set_option linter.unusedSimpArgs false
attribute [local irreducible] WC WL WX WK WA WAK Val Ctr RunRes ResIs Rd At sl box pt Exit.then Exit.inBlock bodyPost Code.wp wpList
theorem KeepR.mono {L : List HP} {R R' : Value → Mem → Prop} (h : ∀ v I, R v I → R' v I) : ∀ v I' L', KeepR L R v I' L' → KeepR L R' v I' L' := fun v I' L' ⟨h1, h2⟩ => ⟨h1, h v I' h2⟩
theorem aNode (A : Ar) (top : Nd) (hA : Abs A top) (i : Int) (I : Mem) :
    Ctr Tryz.prog 29 [ptr A.b, vi i] I A.hp (KeepR A.hp fun v I' => ∃ nv, v = .tuple #[nv, .bool (Nd.find i top).isSome] ∧ NdAt ((Nd.find i top).getD Nd.zero) nv I') := by
  obtain ⟨h1, h2⟩ := hA.find i
  have h3 := hA.fsize i
  refine (tNodeI A i ((Nd.find i top).getD Nd.zero) I hA.ok (by omega) h2).mono fun v I' L' _ => KeepR.mono (fun v I h => ?_) v I' L'
  rw [h1] at h
  cases hf : Nd.find i top with
  | none => rw [hf] at h; exact h
  | some m => rw [hf] at h; exact h
/-- Where, as numbers. -/
def whrV (r : Option (Int × Int)) : Value := match r with
  | none => .tuple #[vi 0, vi 0, .bool false]
  | some (p, k) => .tuple #[vi p, vi k, .bool true]
end Go.Proofs.YtggcpoleklcmkaaGreatDoor

/-
  Tree: awake.
-/

namespace Go.Sl
open Go.Ls
def ptk (P : Program) (t : Nat) : Bool := match P.underlying t with
  | some (.pointer _) => true
  | _ => false
class PtK (P : Program) (t : Nat) : Prop where
  is : ptk P t = true
theorem PtK.und {P : Program} {t : Nat} (h : ptk P t = true) : ∃ e, P.underlying t = some (.pointer e) := by
  unfold ptk at h
  split at h
  · rename_i e he; exact ⟨e, he⟩
  · cases h
section
variable {Γ : Cx} {ρ : Nat → Value} {I : Mem} {L : List HP} {ty : TypeId}
theorem run_eqNilP {P : Program} {t : Nat} (h : ∃ e, P.underlying t = some (.pointer e)) (a : Option Addr) (w : World) : (Op.equal t (.pointer a) (.pointer none)).run P w = .ok a.isNone w := by
  obtain ⟨e, hu⟩ := h
  unfold Op.equal Op.maxDepth
  show (Op.equalIn (9999 + 1) t (.pointer a) (.pointer none)).run P w = _
  unfold Op.equalIn
  cases a <;> (simp only [Sem.run_bind, run_underlying hu, Result.andThen_ok]; rfl)
/-- A pointer against nil. -/
theorem Val.eqlNilP {t t' : Nat} {a : Option Addr} {x : Operand} [hk : PtK Γ.P t] (hx : ev ρ x = .pointer a) : Val Γ ρ I L (.binOp .eql t x (.const (.pointer none)) t') ty (.bool a.isNone) :=
  fun w _ => by
    simp only [execOp, hx]
    simp [eqGuard, binOp, run_eqNilP (PtK.und hk.is), ev]
    all_goals rfl
end
end Go.Sl
namespace Go.Proofs.YtggcpoleklcmkaaGreatDoor
open Go.Sl Go.Ls Go.Tr
set_option maxRecDepth 100000
set_option maxHeartbeats 4000000
set_option linter.unusedVariables false
set_option linter.unusedSimpArgs false
abbrev t0 : Nd := .mk 0 true []
abbrev t1 : Nd := .mk 0 true [.mk 1 false []]
abbrev t2 : Nd := .mk 0 true [.mk 2 false [], .mk 1 false []]
abbrev t3 : Nd := .mk 0 true [.mk 9 true [.mk 2 false [], .mk 1 false []]]
theorem e1 : Nd.add t0 0 0 (.mk 1 false []) = (t1, 0) := by rfl
theorem e2 : Nd.add t1 0 0 (.mk 2 false []) = (t2, 0) := by rfl
theorem e3 : Nd.wrap t2 9 0 0 2 = (t3, 0) := by rfl
instance : PtK Tryz.prog 65 := ⟨by kernel_rfl⟩
attribute [local irreducible] WC WL WX WK WA WAK Val Ctr RunRes ResIs Rd At sl box pt Exit.then Exit.inBlock bodyPost Code.wp wpList
end Go.Proofs.YtggcpoleklcmkaaGreatDoor

/-
  Tree, TreeDeep's plain law: groups within groups, one in each.
-/

namespace Go.Tr
open Go.Sl Go.Ls
set_option linter.unusedVariables false
set_option linter.unusedSimpArgs false
namespace Nd
end Nd
end Go.Tr

/-
  Tree: TreeDeep.
-/

namespace Go.Proofs.YtggcpoleklcmkaaGreatDoor
open Go.Sl Go.Ls Go.Tr
set_option maxRecDepth 100000
set_option maxHeartbeats 8000000
set_option linter.unusedVariables false
set_option linter.unusedSimpArgs false
attribute [local irreducible] WC WL WX WK WA WAK Val Ctr RunRes ResIs Rd At sl box pt Exit.then Exit.inBlock bodyPost Code.wp wpList
end Go.Proofs.YtggcpoleklcmkaaGreatDoor

/-
  Tree, the law's step: one call on both.
-/

namespace Go.Tr
open Go.Sl Go.Ls
/-- What one call makes of a tree. -/
def Nd.Step1 (top top' : Nd) : Prop := top' = top ∨ (∃ p ix nd, top' = (Nd.add top p ix nd).1) ∨ (∃ i, top' = (Nd.remove top i).1) ∨ (∃ i p ix, top' = (Nd.move top i p ix).1) ∨ (∃ i p ix c, top' = (Nd.wrap top i p ix c).1) ∨ (∃ i, top' = (Nd.unwrap top i).1)
section
variable {A : Ar} {top : Nd}
theorem Abs.has (h : Abs A top) (i : Int) : Nd.Has top i := fun h0 n hn => by
  rcases h.cases i with ⟨_, hx⟩ | ⟨q, _, hq, hid, _⟩
  · rw [Nd.find_none _ _ hx] at hn; cases hn
  · have hq0 : q ≠ 0 := fun e => h0 (by rw [← hid]; exact (h.ne0 hq).2 e)
    obtain ⟨y, k, yp, ny, n', R, RO, hk, _, _, _, _, _, _, hw, hf, _⟩ := h.node hq hq0
    rw [hid] at hw
    exact ⟨ny.id, k, ny, hw, hf, hk⟩
end
end Go.Tr
namespace Go.Sl
section
variable {Γ : Cx} {ops : Array Oper} {Q : Post} {z : Nat} {I I0 : Mem} {L L0 : List HP} {ρ : Nat → Value} {fuel : Nat} {listed : Array Bool}
/-- What comes behind a stage is proved once, for whatever order leads there. -/
theorem WA.later (mid : (Nat → Value) → Mem → List HP → Prop) (n2 : Nat) (l2 : Array Bool) (rest : ∀ ρ' I' L', mid ρ' I' L' → WA Γ ops Q z I0 L0 n2 l2 ρ' I' L')
    (h : (∀ ρ' I' L', mid ρ' I' L' → WA Γ ops Q z I0 L0 n2 l2 ρ' I' L') → WA Γ ops Q z I0 L0 fuel listed ρ I L) : WA Γ ops Q z I0 L0 fuel listed ρ I L := h rest
theorem WA.goes {mid : (Nat → Value) → Mem → List HP → Prop} {l2 : Array Bool} {L' : List HP} (rest : ∀ ρ' I' L', mid ρ' I' L' → WA Γ ops Q z I0 L0 fuel l2 ρ' I' L') (hl : listed = l2) (hs : ∀ w, Sat Γ.E w I L → Sat Γ.E w I L') (hm : mid ρ I L') : WA Γ ops Q z I0 L0 fuel listed ρ I L := fun a w ha hw => by
  subst hl; exact rest _ _ _ hm a w ha (hs w hw)
end
end Go.Sl
namespace Go.Proofs.YtggcpoleklcmkaaGreatDoor
open Go.Sl Go.Ls Go.Tr
set_option maxRecDepth 100000
set_option maxHeartbeats 8000000
set_option linter.unusedVariables false
set_option linter.unusedSimpArgs false
attribute [local irreducible] WC WL WX WK WA WAK Val Ctr RunRes ResIs Rd At sl box pt Exit.then Exit.inBlock bodyPost Code.wp wpList
end Go.Proofs.YtggcpoleklcmkaaGreatDoor

/-
  Tree, the law's play: a row of calls on both; and TreePlays.
-/

namespace Go.Tr
open Go.Sl Go.Ls
theorem Nd.find_top (n : Nd) : Nd.find n.id n = some n := by
  cases n with
  | mk j g ks => simp [Nd.find, Nd.id]
theorem Abs.find0 {A : Ar} {top : Nd} (h : Abs A top) : Nd.find 0 top = some top := by
  have := Nd.find_top top
  rw [h.id0] at this; exact this
end Go.Tr
namespace Go.Proofs.YtggcpoleklcmkaaGreatDoor
open Go.Sl Go.Ls Go.Tr
set_option maxRecDepth 100000
set_option maxHeartbeats 8000000
set_option linter.unusedVariables false
set_option linter.unusedSimpArgs false
attribute [local irreducible] WC WL WX WK WA WAK Val Ctr RunRes ResIs Rd At sl box pt Exit.then Exit.inBlock bodyPost Code.wp wpList
end Go.Proofs.YtggcpoleklcmkaaGreatDoor

/-
  Tree, plain law: who has kids is a group, whatever becomes of a tree; each node is the kid of its parent at its place, and one deeper.
-/

namespace Go.Tr
open Go.Sl Go.Ls
namespace Nd
mutual
def All (C : Int → Bool → List Nd → Prop) : Nd → Prop | .mk j g ks => C j g ks ∧ Alls C ks
def Alls (C : Int → Bool → List Nd → Prop) : List Nd → Prop | [] => True | k :: ks => All C k ∧ Alls C ks
end
variable {C C' : Int → Bool → List Nd → Prop}
theorem Alls_iff : ∀ {l : List Nd}, Alls C l ↔ ∀ k ∈ l, All C k
  | [] => by simp [Alls]
  | x :: l => by rw [Alls, Alls_iff (l := l)]; simp
theorem Alls.app {a b : List Nd} (h : Alls C a) (k : Alls C b) : Alls C (a ++ b) := Alls_iff.2 fun x hx => (List.mem_append.1 hx).elim (Alls_iff.1 h x) (Alls_iff.1 k x)
theorem Alls.take {l : List Nd} (h : Alls C l) (n : Nat) : Alls C (l.take n) := Alls_iff.2 fun x hx => Alls_iff.1 h x (List.mem_of_mem_take hx)
theorem Alls.drop {l : List Nd} (h : Alls C l) (n : Nat) : Alls C (l.drop n) := Alls_iff.2 fun x hx => Alls_iff.1 h x (List.mem_of_mem_drop hx)
theorem All.kids : ∀ {n : Nd}, All C n → Alls C n.kids
  | .mk _ _ _, h => by rw [All] at h; exact h.2
theorem All.self : ∀ {n : Nd}, All C n → C n.id n.grp n.kids
  | .mk _ _ _, h => by rw [All] at h; exact h.1
theorem All.find {i : Int} (n : Nd) : ∀ m, All C n → Nd.find i n = some m → All C m := by
  refine Nd.rec (motive_1 := fun n => ∀ m, All C n → Nd.find i n = some m → All C m) (motive_2 := fun l => ∀ m, Alls C l → finds i l = some m → All C m) ?_ ?_ ?_ n
  · intro j g ks ih m h hf
    rw [Nd.find] at hf
    by_cases hj : j = i
    · rw [if_pos hj] at hf; cases hf; exact h
    · rw [if_neg hj] at hf; exact ih m h.kids hf
  · intro m _ hf; simp [finds] at hf
  · intro k ks h1 h2 m h hf
    rw [Alls] at h
    rw [finds] at hf
    cases hk : Nd.find i k with
    | some x => rw [hk] at hf; cases hf; exact h1 _ h.1 hk
    | none => rw [hk] at hf; exact h2 _ h.2 hf
theorem All.with_ {i : Int} {ks : List Nd} (hks : Alls C' ks) (h1 : ∀ g ks0, C i g ks0 → C' i g ks) (h2 : ∀ j g (ks0 ks1 : List Nd), ks0.length = ks1.length → C j g ks0 → C' j g ks1) (n : Nd) : All C n → All C' (Nd.with_ i ks n) := by
  refine Nd.rec (motive_1 := fun n => All C n → All C' (Nd.with_ i ks n)) (motive_2 := fun l => Alls C l → Alls C' (withs i ks l)) ?_ ?_ ?_ n
  · intro j g ks0 ih h
    rw [All] at h
    rw [Nd.with_]
    by_cases hj : j = i
    · subst hj
      rw [if_pos rfl, All]
      exact ⟨h1 _ _ h.1, hks⟩
    · rw [if_neg hj, All]
      exact ⟨h2 _ _ _ _ (withs_len i ks ks0).symm h.1, ih h.2⟩
  · intro _; rw [withs, Alls]; trivial
  · intro k l ha hb h
    rw [Alls] at h
    rw [withs, Alls]
    exact ⟨ha h.1, hb h.2⟩
theorem All.mono (h : ∀ j g ks, C j g ks → C' j g ks) (n : Nd) : All C n → All C' n := by
  refine Nd.rec (motive_1 := fun n => All C n → All C' n) (motive_2 := fun l => Alls C l → Alls C' l) ?_ ?_ ?_ n
  · intro j g ks ih hn
    rw [All] at hn ⊢
    exact ⟨h _ _ _ hn.1, ih hn.2⟩
  · intro _; rw [Alls]; trivial
  · intro k l ha hb hn
    rw [Alls] at hn ⊢
    exact ⟨ha hn.1, hb hn.2⟩
theorem All.and (n : Nd) : All C n → All C' n → All (fun j g ks => C j g ks ∧ C' j g ks) n := by
  refine Nd.rec (motive_1 := fun n => All C n → All C' n → All (fun j g ks => C j g ks ∧ C' j g ks) n) (motive_2 := fun l => Alls C l → Alls C' l → Alls (fun j g ks => C j g ks ∧ C' j g ks) l) ?_ ?_ ?_ n
  · intro j g ks ih hn hm
    rw [All] at hn hm ⊢
    exact ⟨⟨hn.1, hm.1⟩, ih hn.2 hm.2⟩
  · intro _ _; rw [Alls]; trivial
  · intro k l ha hb hn hm
    rw [Alls] at hn hm ⊢
    exact ⟨ha hn.1 hm.1, hb hn.2 hm.2⟩
/-- Who has kids is a group. -/
abbrev Gp (n : Nd) : Prop := All (fun _ g ks => ks ≠ [] → g = true) n
/-- Who has this ID is a group. -/
abbrev Ga (i : Int) (n : Nd) : Prop := All (fun j g _ => j = i → g = true) n
theorem Ga.of {i : Int} (n : Nd) : n.order.Nodup → (∀ m, Nd.find i n = some m → m.grp = true) → Ga i n := by
  refine Nd.rec (motive_1 := fun n => n.order.Nodup → (∀ m, Nd.find i n = some m → m.grp = true) → Ga i n) (motive_2 := fun l => (orders l).Nodup → (∀ m, finds i l = some m → m.grp = true) → Alls (fun j g _ => j = i → g = true) l) ?_ ?_ ?_ n
  · intro j g ks ih ho hf
    rw [order, List.nodup_cons] at ho
    rw [Ga, All]
    refine ⟨fun e => ?_, ih ho.2 fun m hm => ?_⟩
    · exact hf (.mk j g ks) (by rw [Nd.find, if_pos e])
    · by_cases e : j = i
      · rw [finds_none i ks (e ▸ ho.1)] at hm; cases hm
      · exact hf m (by rw [Nd.find, if_neg e]; exact hm)
  · intro _ _; rw [Alls]; trivial
  · intro k l ha hb ho hf
    rw [orders, List.nodup_append] at ho
    rw [Alls]
    refine ⟨ha ho.1 fun m hm => hf m (by rw [finds, hm]; rfl), hb ho.2.1 fun m hm => hf m ?_⟩
    have hi : i ∈ orders l := by
      refine Decidable.byContradiction fun hn => ?_
      rw [finds_none i l hn] at hm; cases hm
    rw [finds, find_none i k fun hk => ho.2.2 i hk i hi rfl]
    exact hm
theorem Gp.with_ {i : Int} {ks : List Nd} {n : Nd} (h : Gp n) (ha : Ga i n) (hk : Alls (fun _ g ks => ks ≠ [] → g = true) ks) : Gp (Nd.with_ i ks n) :=
  All.with_ (C := fun j g ks => (ks ≠ [] → g = true) ∧ (j = i → g = true)) hk (fun g ks0 hc _ => hc.2 rfl) (fun j g ks0 ks1 hl hc hne => hc.1 fun e => hne (List.length_eq_zero_iff.1 (by rw [← hl, e]; rfl))) n (All.and n h ha)
theorem Gp.with0 {i : Int} {n : Nd} (h : Gp n) : Gp (Nd.with_ i [] n) :=
  All.with_ (C := fun _ g ks => ks ≠ [] → g = true) (C' := fun _ g ks => ks ≠ [] → g = true) (by rw [Alls]; trivial) (fun g ks0 hc hne => absurd rfl hne) (fun j g ks0 ks1 hl hc hne => hc fun e => hne (List.length_eq_zero_iff.1 (by rw [← hl, e]; rfl))) n h
theorem Ga.with_ {i j : Int} {ks : List Nd} {n : Nd} (h : Ga j n) (hk : Alls (fun x g _ => x = j → g = true) ks) : Ga j (Nd.with_ i ks n) :=
  All.with_ hk (fun g ks0 hc => hc) (fun j g ks0 ks1 hl hc => hc) n h
theorem Gp.zero : Gp zero := by rw [Gp, Nd.zero, All, Alls]; exact ⟨fun h => absurd rfl h, trivial⟩
theorem Gp.wrong (top : Nd) (n : Nd) : ∀ (seen : List Int) (d : Int), (wrong top n seen d).1 = 0 → Gp n := by
  refine Nd.rec (motive_1 := fun n => ∀ (seen : List Int) (d : Int), (Nd.wrong top n seen d).1 = 0 → Gp n)
    (motive_2 := fun l => ∀ (seen : List Int) (d : Int), (wrongs top l seen d).1 = 0 → Alls (fun _ g ks => ks ≠ [] → g = true) l) ?_ ?_ ?_ n
  · intro i g ks ih seen d h
    simp only [Nd.wrong] at h
    by_cases h1 : i < 1 ∨ 2147483648 < i
    · rw [if_pos h1] at h; exact absurd h (by show ¬ (30 : Int) = 0; decide)
    rw [if_neg h1] at h
    by_cases h2 : (Nd.find i top).isSome = true
    · rw [if_pos h2] at h; exact absurd h (by show ¬ (32 : Int) = 0; decide)
    rw [if_neg h2] at h
    by_cases h3 : i ∈ seen
    · rw [if_pos h3] at h; exact absurd h (by show ¬ (32 : Int) = 0; decide)
    rw [if_neg h3] at h
    by_cases h4 : g = false ∧ 0 < ks.length
    · rw [if_pos h4] at h; exact absurd h (by show ¬ (33 : Int) = 0; decide)
    rw [if_neg h4] at h
    by_cases h5 : 64 < d
    · rw [if_pos h5] at h; exact absurd h (by show ¬ (35 : Int) = 0; decide)
    rw [if_neg h5] at h
    rw [Gp, All]
    refine ⟨fun hne => ?_, ih _ _ h⟩
    cases g with
    | true => rfl
    | false => exact absurd ⟨rfl, List.length_pos_iff.2 hne⟩ h4
  · intro seen d _; rw [Alls]; trivial
  · intro k ks h1 h2 seen d h
    simp only [wrongs] at h
    by_cases hk : (Nd.wrong top k seen d).1 = 0
    · rw [if_pos hk] at h
      rw [Alls]
      exact ⟨h1 _ _ hk, h2 _ _ h⟩
    · rw [if_neg hk] at h; exact absurd h hk
theorem Gp.fits {top n : Nd} {d : Int} (h : fits top n d = 0) : Gp n := by
  rw [Nd.fits] at h
  by_cases h1 : 65536 < (top.size : Int) - 1 + n.size
  · rw [if_pos h1] at h; cases h
  · rw [if_neg h1] at h; exact Gp.wrong top n [] d h
variable {top : Nd}
theorem Gp.found (h : Gp top) {i : Int} {m : Nd} (hf : Nd.find i top = some m) : Gp m := All.find top m h hf
theorem Gp.add (h : Gp top) (ho : top.order.Nodup) (p ix : Int) (n : Nd) : Gp (Nd.add top p ix n).1 := by
  rw [Nd.add]
  split
  · exact h
  · rename_i m hm
    have hmp := (h.found hm).kids
    split
    · exact h
    · rename_i hg
      split
      · exact h
      · split
        · exact h
        · rename_i hf
          have hf0 : Nd.fits top n (Nd.depth p top + 1) = 0 := Decidable.of_not_not hf
          refine h.with_ (Ga.of top ho fun m' hm' => ?_) (Alls.app (hmp.take _) ?_)
          · rw [hm] at hm'; cases hm'; simpa using hg
          · rw [Alls]; exact ⟨Gp.fits hf0, hmp.drop _⟩
theorem Gp.cutd (h : Gp top) (ho : top.order.Nodup) {q : Int} {p : Nd} (hp : Nd.find q top = some p) (k : Nat) : Gp (Nd.with_ q (p.kids.take k ++ p.kids.drop (k + 1)) top) := by
  have hpg := h.found hp
  by_cases hk : p.kids = []
  · rw [hk]; simp only [List.take_nil, List.drop_nil, List.append_nil]; exact h.with0
  · exact h.with_ (Ga.of top ho fun m' hm' => by rw [hp] at hm'; cases hm'; exact hpg.self hk) ((hpg.kids.take _).app (hpg.kids.drop _))
theorem Gp.remove (h : Gp top) (ho : top.order.Nodup) (i : Int) : Gp (Nd.remove top i).1 ∧ Gp (Nd.remove top i).2.1 := by
  rw [Nd.remove]
  split
  · exact ⟨h, Gp.zero⟩
  · split
    · exact ⟨h, Gp.zero⟩
    · rename_i n hn
      split
      · exact ⟨h, Gp.zero⟩
      · split
        · exact ⟨h, Gp.zero⟩
        · rename_i q k _ p hp
          exact ⟨h.cutd ho hp _, h.found hn⟩
theorem Ga.found {i j : Int} {m : Nd} (h : Ga j top) (hf : Nd.find i top = some m) : Ga j m := All.find top m h hf
theorem Ga.remove {j : Int} (h : Ga j top) (i : Int) : Ga j (Nd.remove top i).1 := by
  rw [Nd.remove]
  split
  · exact h
  · split
    · exact h
    · split
      · exact h
      · split
        · exact h
        · rename_i q k _ p hp
          have := (h.found hp).kids
          exact h.with_ ((this.take _).app (this.drop _))
theorem Gp.getD (h : Gp top) (i : Int) : Gp ((Nd.find i top).getD Nd.zero) := by
  cases hf : Nd.find i top with
  | none => exact Gp.zero
  | some m => exact h.found hf
theorem Gp.move (h : Gp top) (ho : top.order.Nodup) (i p ix : Int) : Gp (Nd.move top i p ix).1 := by
  obtain ⟨h1, h2⟩ := h.remove ho i
  rw [Nd.move]
  split
  · exact h
  · split
    · exact h
    · rename_i m hm
      split
      · exact h
      · rename_i hg
        split
        · exact h
        · split
          · exact h
          · split
            · exact h
            · have hk := (h1.getD p).kids
              refine h1.with_ (Ga.remove (Ga.of top ho fun m' hm' => ?_) i) ((hk.take _).app ?_)
              · rw [hm] at hm'; cases hm'; simpa using hg
              · rw [Alls]; exact ⟨h2, hk.drop _⟩
theorem Gp.wrap (h : Gp top) (ho : top.order.Nodup) (i p ix c : Int) : Gp (Nd.wrap top i p ix c).1 := by
  rw [Nd.wrap]
  split
  · exact h
  · rename_i m hm
    have hmp := (h.found hm).kids
    split
    · exact h
    · rename_i hg
      split
      · exact h
      · split
        · exact h
        · split
          · exact h
          · refine h.with_ (Ga.of top ho fun m' hm' => ?_) (Alls.app (hmp.take _) ?_)
            · rw [hm] at hm'; cases hm'; simpa using hg
            · rw [Alls, All]; exact ⟨⟨fun _ => rfl, (hmp.drop _).take _⟩, hmp.drop _⟩
theorem Gp.unwrap (h : Gp top) (ho : top.order.Nodup) (i : Int) (hh : Nd.Has top i) : Gp (Nd.unwrap top i).1 := by
  obtain ⟨h1, h2⟩ := h.remove ho i
  rw [Nd.unwrap]
  split
  · exact h
  · rename_i he
    obtain ⟨k, p, hk, hp, hkp⟩ := remove_ok top i hh (Decidable.of_not_not he)
    split
    · exact h
    · rw [hp, Option.getD_some]
      have hpg := h.found hp
      refine h.with_ (Ga.of top ho fun m' hm' => ?_) ((hpg.kids.take _).app (h2.kids.app (hpg.kids.drop _)))
      rw [hp] at hm'; cases hm'
      exact hpg.self fun e => by rw [e] at hkp; exact Nat.not_lt_zero _ hkp
end Nd
section
variable {A : Ar} {top : Nd}
/-- Each node is the kid of its parent at its place, and one deeper; and its parent is a group. -/
theorem Abs.apart (h : Abs A top) (hg : Nd.Gp top) {i : Int} (hi : i ∈ top.order.tail) : ∃ (y : Nd) (k : Nat) (hk : k < y.kids.length), Nd.whr i top = some (y.id, (k : Int)) ∧ Nd.find y.id top = some y ∧ (y.kids[k]).id = i ∧ Nd.depth i top = Nd.depth y.id top + 1 ∧ y.grp = true := by
  have ho := h.od
  rw [Nd.order_eq, List.nodup_cons, h.id0] at ho
  rw [Nd.order_eq, List.tail_cons] at hi
  rcases h.cases i with ⟨_, hn⟩ | ⟨q, _, hq, hid, _⟩
  · exact absurd (by rw [Nd.order_eq]; exact List.mem_cons_of_mem _ hi) hn
  have hi0 : i ≠ 0 := fun e => ho.1 (e ▸ hi)
  have hq0 : q ≠ 0 := fun e => hi0 (by rw [← hid]; exact (h.ne0 hq).2 e)
  obtain ⟨y, k, yp, ny, n', R, RO, hk, hl, f, hkn, _, hn', _, hw, hf, _⟩ := h.node hq hq0
  obtain ⟨hql, hyl, hpar, _, _⟩ := hl
  obtain ⟨l, hc, hd, _⟩ := h.up hq
  have hy : y ∈ post A 0 top := f.mem (self_post A y ny)
  obtain ⟨l', hc', hd', _⟩ := h.up hy
  have := hc.eq (Ch.up hql hpar hc')
  subst this
  rw [hid] at hw hd hn'
  rw [f.id] at hd'
  refine ⟨ny, k, hk, hw, hf, by rw [hkn]; exact hn', ?_, (hg.found hf).self fun e => by rw [e] at hk; exact Nat.not_lt_zero _ hk⟩
  rw [hd, hd', List.length_cons]; omega
end
end Go.Tr

/-
  Tree: TreeApart.
-/

namespace Go.Sl
section
variable {Γ : Cx} {ρ : Nat → Value} {I : Mem} {L : List HP} {Q : Post}
end
end Go.Sl
namespace Go.Tr
open Go.Sl Go.Ls
end Go.Tr
namespace Go.Proofs.YtggcpoleklcmkaaGreatDoor
open Go.Sl Go.Ls Go.Tr
set_option maxRecDepth 100000
set_option maxHeartbeats 8000000
set_option linter.unusedVariables false
set_option linter.unusedSimpArgs false
attribute [local irreducible] WC WL WX WK WA WAK Val Ctr RunRes ResIs Rd At sl box pt Exit.then Exit.inBlock bodyPost Code.wp wpList
end Go.Proofs.YtggcpoleklcmkaaGreatDoor

/-
  Tree, the program's: Equal, by slices.EqualFunc.
-/

namespace Go.Proofs.YtggcpoleklcmkaaGreatDoor
open Go.Sl Go.Ls Go.Tr
set_option maxRecDepth 100000
set_option maxHeartbeats 8000000
set_option linter.unusedVariables false
set_option linter.unusedSimpArgs false
attribute [local irreducible] WC WL WX WK WA WAK Val Ctr RunRes ResIs Rd At sl box pt Exit.then Exit.inBlock bodyPost Code.wp wpList
end Go.Proofs.YtggcpoleklcmkaaGreatDoor

/-
  Tree: TreeFinds.
-/

namespace Go.Sl
section
variable {Γ : Cx} {ρ : Nat → Value} {I : Mem} {L : List HP} {ty : TypeId}
-- PICKB
end
end Go.Sl
namespace Go.Tr
open Go.Sl Go.Ls
theorem LsAt.tail {α : Type} {R : Rep α} {sz : Nat} [hL : RepLen R sz] {I : Mem} {l : List α} {b off cap : Nat} (h : LsAt R I l (.slice (some ⟨b, off, none⟩) l.length cap)) (h0 : 0 < l.length) (hc : cap ≤ maxLen) : LsAt R I l.tail (.slice (some ⟨b, if cap = 1 then off else off + 1 * sz, none⟩) (l.length - 1) (cap - 1)) := by
  by_cases h1 : cap = 1
  · have hl := h.cap
    have : l.length = 1 := by omega
    match l, this with
    | [x], _ => exact ⟨[], ⟨_, cap - 1, rfl, ⟨Nat.zero_le _, by omega⟩, .inl ⟨rfl, rfl⟩⟩, trivial⟩
  · rw [if_neg h1]
    have := h.drop 1 h0
    rw [List.drop_one] at this
    exact this
end Go.Tr
namespace Go.Proofs.YtggcpoleklcmkaaGreatDoor
open Go.Sl Go.Ls Go.Tr
set_option maxRecDepth 100000
set_option maxHeartbeats 8000000
set_option linter.unusedVariables false
set_option linter.unusedSimpArgs false
theorem WhrP.eq {r : Option (Int × Int)} {v : Value} (h : WhrP r v) : v = whrV r := by
  rcases h with ⟨p, i, rfl, rfl⟩ | ⟨rfl, rfl⟩ <;> rfl
attribute [local irreducible] WC WL WX WK WA WAK Val Ctr RunRes ResIs Rd At sl box pt Exit.then Exit.inBlock bodyPost Code.wp wpList
end Go.Proofs.YtggcpoleklcmkaaGreatDoor

/-
  Tree, plain law: what a node's kids being others does to what is found, how deep, how high.
-/

namespace Go.Tr
open Go.Sl Go.Ls
namespace Nd
/-- How deep, and how high from there. -/
theorem depth_height {q : Int} (n : Nd) : ∀ p, Nd.find q n = some p → 0 ≤ Nd.depth q n ∧ Nd.depth q n + p.height ≤ n.height := by
  refine Nd.rec (motive_1 := fun n => ∀ p, Nd.find q n = some p → 0 ≤ Nd.depth q n ∧ Nd.depth q n + p.height ≤ n.height) (motive_2 := fun l => ∀ p, finds q l = some p → 0 ≤ depths q l ∧ depths q l + p.height ≤ (heights l : Int) + 1) ?_ ?_ ?_ n
  · intro j g ks0 ih p hp
    rw [Nd.find] at hp
    rw [Nd.depth]
    by_cases hj : j = q
    · rw [if_pos hj] at hp; cases hp
      rw [if_pos hj]; omega
    · rw [if_neg hj] at hp
      rw [if_neg hj, Nd.height]
      have := ih p hp
      omega
  · intro p hp; simp [finds] at hp
  · intro k l h1 h2 p hp
    rw [finds] at hp
    rw [depths, heights]
    cases hk : Nd.find q k with
    | some x =>
      rw [hk] at hp; cases hp
      have := h1 _ hk
      rw [if_pos this.1]
      omega
    | none =>
      rw [hk] at hp
      have hn : q ∉ k.order := fun hm => by
        have := (find_some q k).2 hm
        rw [hk] at this; cases this
      have := h2 _ hp
      rw [depth_none q k hn, if_neg (by decide)]
      omega
theorem height_with {q : Int} (ks : List Nd) (n : Nd) : ∀ p, Nd.find q n = some p → n.order.Nodup → ((Nd.with_ q ks n).height : Int) ≤ max (n.height : Int) (Nd.depth q n + 1 + heights ks) := by
  refine Nd.rec (motive_1 := fun n => ∀ p, Nd.find q n = some p → n.order.Nodup → ((Nd.with_ q ks n).height : Int) ≤ max (n.height : Int) (Nd.depth q n + 1 + heights ks)) (motive_2 := fun l => ∀ p, finds q l = some p → (orders l).Nodup → (heights (withs q ks l) : Int) ≤ max (heights l : Int) (depths q l + heights ks)) ?_ ?_ ?_ n
  · intro j g ks0 ih p hp ho
    rw [Nd.find] at hp
    rw [Nd.with_, Nd.depth, Nd.height, Nd.height]
    rw [order, List.nodup_cons] at ho
    by_cases hj : j = q
    · rw [if_pos hj, if_pos hj]; omega
    · rw [if_neg hj] at hp
      rw [if_neg hj, if_neg hj]
      have := ih p hp ho.2
      omega
  · intro p hp; simp [finds] at hp
  · intro k l h1 h2 p hp ho
    rw [finds] at hp
    rw [orders, List.nodup_append] at ho
    rw [withs, depths, heights, heights]
    cases hk : Nd.find q k with
    | some x =>
      have hq : q ∈ k.order := (find_some q k).1 (by rw [hk]; rfl)
      have h3 := h1 _ hk ho.1
      have h4 := (depth_height k _ hk).1
      rw [withs_none q _ l fun hl => ho.2.2 q hq q hl rfl, if_pos h4]
      omega
    | none =>
      rw [hk] at hp
      have hn : q ∉ k.order := fun hm => by
        have := (find_some q k).2 hm
        rw [hk] at this; cases this
      have h3 := h2 _ hp ho.2.1
      rw [with_none q _ k hn, depth_none q k hn, if_neg (by decide)]
      omega
theorem order_with {q x : Int} (ks : List Nd) (n : Nd) : x ∈ (Nd.with_ q ks n).order → x ∈ n.order ∨ x ∈ orders ks := by
  refine Nd.rec (motive_1 := fun n => x ∈ (Nd.with_ q ks n).order → x ∈ n.order ∨ x ∈ orders ks) (motive_2 := fun l => x ∈ orders (withs q ks l) → x ∈ orders l ∨ x ∈ orders ks) ?_ ?_ ?_ n
  · intro j g ks0 ih h
    rw [Nd.with_, order, List.mem_cons] at h
    rw [order, List.mem_cons]
    rcases h with h | h
    · exact .inl (.inl h)
    · by_cases hj : j = q
      · rw [if_pos hj] at h; exact .inr h
      · rw [if_neg hj] at h
        exact (ih h).imp .inr fun y => y
  · intro h; exact .inl h
  · intro k l h1 h2 h
    rw [withs, orders, List.mem_append] at h
    rw [orders, List.mem_append]
    rcases h with h | h
    · exact (h1 h).imp .inl fun y => y
    · exact (h2 h).imp .inr fun y => y
theorem find_order {q x : Int} {n p : Nd} (hp : Nd.find q n = some p) : x ∈ p.order → x ∈ n.order := by
  have key : ∀ n : Nd, ∀ p, Nd.find q n = some p → x ∈ p.order → x ∈ n.order := fun n => by
    refine Nd.rec (motive_1 := fun n => ∀ p, Nd.find q n = some p → x ∈ p.order → x ∈ n.order) (motive_2 := fun l => ∀ p, finds q l = some p → x ∈ p.order → x ∈ orders l) ?_ ?_ ?_ n
    · intro j g ks0 ih p hp hx
      rw [Nd.find] at hp
      by_cases hj : j = q
      · rw [if_pos hj] at hp; cases hp; exact hx
      · rw [if_neg hj] at hp
        rw [order]; exact List.mem_cons_of_mem _ (ih p hp hx)
    · intro p hp; simp [finds] at hp
    · intro k l h1 h2 p hp hx
      rw [finds] at hp
      rw [orders, List.mem_append]
      cases hk : Nd.find q k with
      | some y => rw [hk] at hp; cases hp; exact .inl (h1 _ hk hx)
      | none => rw [hk] at hp; exact .inr (h2 _ hp hx)
  exact key n p hp
end Nd
end Go.Tr

/-
  Tree, plain law: what holds of every tree that calls lead to.
-/

namespace Go.Tr
open Go.Sl Go.Ls
namespace Nd
theorem size_with {q : Int} (ks : List Nd) (n : Nd) : ∀ p, Nd.find q n = some p → n.order.Nodup → (Nd.with_ q ks n).size + sizes p.kids = n.size + sizes ks := by
  refine Nd.rec (motive_1 := fun n => ∀ p, Nd.find q n = some p → n.order.Nodup → (Nd.with_ q ks n).size + sizes p.kids = n.size + sizes ks) (motive_2 := fun l => ∀ p, finds q l = some p → (orders l).Nodup → sizes (withs q ks l) + sizes p.kids = sizes l + sizes ks) ?_ ?_ ?_ n
  · intro j g ks0 ih p hp ho
    rw [Nd.find] at hp
    rw [Nd.with_, Nd.size, Nd.size]
    rw [order, List.nodup_cons] at ho
    by_cases hj : j = q
    · rw [if_pos hj] at hp; cases hp
      rw [if_pos hj]
      show 1 + sizes ks + sizes ks0 = _
      omega
    · rw [if_neg hj] at hp
      rw [if_neg hj]
      have := ih p hp ho.2
      omega
  · intro p hp; simp [finds] at hp
  · intro k l h1 h2 p hp ho
    rw [finds] at hp
    rw [orders, List.nodup_append] at ho
    rw [withs, sizes, sizes]
    cases hk : Nd.find q k with
    | some x =>
      rw [hk] at hp; cases hp
      have hq : q ∈ k.order := (find_some q k).1 (by rw [hk]; rfl)
      have h3 := h1 _ hk ho.1
      rw [withs_none q _ l fun hl => ho.2.2 q hq q hl rfl]
      omega
    | none =>
      rw [hk] at hp
      have hn : q ∉ k.order := fun hm => by
        have := (find_some q k).2 hm
        rw [hk] at this; cases this
      have h3 := h2 _ hp ho.2.1
      rw [with_none q _ k hn]
      omega
theorem wrong_height (top : Nd) (n : Nd) : ∀ (seen : List Int) (d : Int), (wrong top n seen d).1 = 0 → d + n.height - 1 ≤ 64 := by
  refine Nd.rec (motive_1 := fun n => ∀ (seen : List Int) (d : Int), (Nd.wrong top n seen d).1 = 0 → d + n.height - 1 ≤ 64)
    (motive_2 := fun l => ∀ (seen : List Int) (d : Int), (wrongs top l seen d).1 = 0 → heights l = 0 ∨ d + heights l - 1 ≤ 64) ?_ ?_ ?_ n
  · intro i g ks ih seen d h
    simp only [Nd.wrong] at h
    by_cases h1 : i < 1 ∨ 2147483648 < i
    · rw [if_pos h1] at h; exact absurd h (by show ¬ (30 : Int) = 0; decide)
    rw [if_neg h1] at h
    by_cases h2 : (Nd.find i top).isSome = true
    · rw [if_pos h2] at h; exact absurd h (by show ¬ (32 : Int) = 0; decide)
    rw [if_neg h2] at h
    by_cases h3 : i ∈ seen
    · rw [if_pos h3] at h; exact absurd h (by show ¬ (32 : Int) = 0; decide)
    rw [if_neg h3] at h
    by_cases h4 : g = false ∧ 0 < ks.length
    · rw [if_pos h4] at h; exact absurd h (by show ¬ (33 : Int) = 0; decide)
    rw [if_neg h4] at h
    by_cases h5 : 64 < d
    · rw [if_pos h5] at h; exact absurd h (by show ¬ (35 : Int) = 0; decide)
    rw [if_neg h5] at h
    rw [Nd.height]
    have := ih _ _ h
    omega
  · intro seen d _; exact .inl rfl
  · intro k ks h1 h2 seen d h
    simp only [wrongs] at h
    by_cases hk : (Nd.wrong top k seen d).1 = 0
    · rw [if_pos hk] at h
      rw [heights]
      have e1 := h1 _ _ hk
      have e2 := h2 _ _ h
      omega
    · rw [if_neg hk] at h; exact absurd h hk
theorem fits_height {top n : Nd} {d : Int} (h : fits top n d = 0) : d + n.height - 1 ≤ 64 := by
  rw [Nd.fits] at h
  by_cases h1 : 65536 < (top.size : Int) - 1 + n.size
  · rw [if_pos h1] at h; cases h
  · rw [if_neg h1] at h; exact wrong_height top n [] d h
theorem heights_take (l : List Nd) (k : Nat) : heights (l.take k) ≤ heights l := by
  have := heights_app (l.take k) (l.drop k)
  rw [List.take_append_drop] at this
  omega
theorem heights_drop (l : List Nd) (k : Nat) : heights (l.drop k) ≤ heights l := by
  have := heights_app (l.take k) (l.drop k)
  rw [List.take_append_drop] at this
  omega
theorem orders_take {l : List Nd} {k : Nat} {x : Int} (h : x ∈ orders (l.take k)) : x ∈ orders l := by
  rw [← List.take_append_drop k l, orders_app]; exact List.mem_append_left _ h
theorem orders_drop {l : List Nd} {k : Nat} {x : Int} (h : x ∈ orders (l.drop k)) : x ∈ orders l := by
  rw [← List.take_append_drop k l, orders_app]; exact List.mem_append_right _ h
theorem sizes_td (l : List Nd) (k : Nat) : sizes (l.take k) + sizes (l.drop k) = sizes l := by
  rw [← sizes_app, List.take_append_drop]
theorem orders_kids {n : Nd} {x : Int} (h : x ∈ orders n.kids) : x ∈ n.order := by rw [order_eq]; exact List.mem_cons_of_mem _ h
theorem height_eq (n : Nd) : n.height = heights n.kids + 1 := by cases n; rfl
/-- What holds of every tree that calls lead to. -/
structure Good (t : Nd) : Prop where
  gp : Gp t
  ht : t.height ≤ 65
  ids : ∀ x ∈ t.order, x = 0 ∨ (1 ≤ x ∧ x ≤ 2147483648)
  sz : t.size ≤ 65537
variable {top : Nd}
theorem Good.of_with {q : Int} {p : Nd} {ks : List Nd} (g : Good top) (ho : top.order.Nodup) (hf : Nd.find q top = some p) (hp : p.grp = true) (hk : Alls (fun _ g ks => ks ≠ [] → g = true) ks)
    (hh : Nd.depth q top + 1 + heights ks ≤ 65) (hi : ∀ x ∈ orders ks, x = 0 ∨ (1 ≤ x ∧ x ≤ 2147483648)) (hs : top.size + sizes ks ≤ 65537 + sizes p.kids) : Good (Nd.with_ q ks top) := by
  refine ⟨g.gp.with_ (Ga.of top ho fun m hm => by rw [hf] at hm; cases hm; exact hp) hk, ?_, fun x hx => (order_with ks top hx).elim (g.ids x) (hi x), ?_⟩
  · have := height_with ks top p hf ho
    have := g.ht
    omega
  · have := size_with ks top p hf ho
    omega
theorem Good.deep {q : Int} {p : Nd} (g : Good top) (hf : Nd.find q top = some p) : Nd.depth q top + 1 + heights p.kids ≤ 65 := by
  have := (depth_height top p hf).2
  rw [height_eq p] at this
  have := g.ht
  omega
theorem Good.kids {q : Int} {p : Nd} (g : Good top) (hf : Nd.find q top = some p) {x : Int} (h : x ∈ orders p.kids) : x = 0 ∨ (1 ≤ x ∧ x ≤ 2147483648) := g.ids x (find_order hf (orders_kids h))
theorem Good.add (g : Good top) (ho : top.order.Nodup) (p ix : Int) (n : Nd) : Good (Nd.add top p ix n).1 := by
  rw [Nd.add]
  split
  · exact g
  · rename_i m hm
    split
    · exact g
    · rename_i hg
      split
      · exact g
      · split
        · exact g
        · rename_i hf
          have hf0 : Nd.fits top n (Nd.depth p top + 1) = 0 := Decidable.of_not_not hf
          obtain ⟨_, hx, hsz⟩ := fits_ok hf0
          have hh := fits_height hf0
          have hd := g.deep hm
          have hmp := (g.gp.found hm).kids
          refine g.of_with ho hm (by simpa using hg) (Alls.app (hmp.take _) (by rw [Alls]; exact ⟨Gp.fits hf0, hmp.drop _⟩)) ?_ (fun x hxm => ?_) ?_
          · rw [heights_app, heights]
            have := heights_take m.kids ix.toNat
            have := heights_drop m.kids ix.toNat
            omega
          · rw [orders_app, orders] at hxm
            rcases List.mem_append.1 hxm with h | h
            · exact g.kids hm (orders_take h)
            · rcases List.mem_append.1 h with h | h
              · exact .inr (hx x h).2
              · exact g.kids hm (orders_drop h)
          · rw [sizes_app, sizes]
            have := sizes_td m.kids ix.toNat
            omega
end Nd
end Go.Tr

/-
  Tree, plain law: what holds of every tree that calls lead to, whatever the call.
-/

namespace Go.Tr
open Go.Sl Go.Ls
section
variable {A : Ar} {top : Nd}
/-- A node is taken out, or it is not there. -/
theorem Abs.rem (h : Abs A top) (i : Int) : ((Nd.remove top i).2.2.2.2 ≠ 0 ∧ (Nd.remove top i).1 = top) ∨ ∃ (p : Nd) (k : Nat) (hk : k < p.kids.length), i ≠ 0 ∧ (p.kids[k]).id = i ∧ Nd.find i top = some p.kids[k] ∧ Nd.whr i top = some (p.id, (k : Int)) ∧ Nd.find p.id top = some p ∧
    Nd.remove top i = (Nd.with_ p.id (p.kids.take k ++ p.kids.drop (k + 1)) top, p.kids[k], p.id, (k : Int), 0) ∧ (Nd.with_ p.id (p.kids.take k ++ p.kids.drop (k + 1)) top).order.Nodup ∧ (p.kids[k]).order.Nodup ∧ ∀ x ∈ (Nd.with_ p.id (p.kids.take k ++ p.kids.drop (k + 1)) top).order, x ∉ (p.kids[k]).order := by
  by_cases h0 : i = 0
  · refine .inl ?_
    rw [Nd.remove, if_pos h0]
    exact ⟨by show (30 : Int) ≠ 0; decide, rfl⟩
  rcases h.cases i with ⟨_, hx⟩ | ⟨q, _, hq, hid, _⟩
  · refine .inl ?_
    rw [Nd.remove, if_neg h0, Nd.find_none _ _ hx]
    exact ⟨by show (31 : Int) ≠ 0; decide, rfl⟩
  · refine .inr ?_
    have hq0 : q ≠ 0 := fun e => h0 (by rw [← hid]; exact (h.ne0 hq).2 e)
    obtain ⟨y, k, yp, ny, n', R, RO, hk, hl, f, hkn, ht, hidn, hfi, hw, hfy, hrem⟩ := h.node hq hq0
    have hcut := (h.cut hl f hk hkn ht (.slice none 0 0)).2
    obtain ⟨o1, o2, o3⟩ := hcut.od h
    subst hkn
    rw [hid] at hidn hfi hw hrem
    exact ⟨ny, k, hk, h0, hidn, hfi, hw, hfy, hrem, o1, o2, o3⟩
end
namespace Nd
variable {A : Ar} {top : Nd}
theorem rem_sizes {l : List Nd} {k : Nat} (hk : k < l.length) : sizes (l.take k ++ l.drop (k + 1)) + (l[k]).size = sizes l := by
  have h1 := sizes_td l k
  rw [drop_eq hk, sizes] at h1
  rw [sizes_app]; omega
theorem rem_heights (l : List Nd) (k : Nat) : heights (l.take k ++ l.drop (k + 1)) ≤ heights l := by
  rw [heights_app]
  have := heights_take l k
  have := heights_drop l (k + 1)
  omega
theorem rem_orders {l : List Nd} {k : Nat} {x : Int} (h : x ∈ orders (l.take k ++ l.drop (k + 1))) : x ∈ orders l := by
  rw [orders_app] at h
  exact (List.mem_append.1 h).elim orders_take orders_drop
theorem Good.rem {p : Nd} {k : Nat} (g : Good top) (ho : top.order.Nodup) (hk : k < p.kids.length) (hf : Nd.find p.id top = some p) : Good (Nd.with_ p.id (p.kids.take k ++ p.kids.drop (k + 1)) top) := by
  have hgp := g.gp.found hf
  have hd := g.deep hf
  refine g.of_with ho hf (hgp.self fun e => by rw [e] at hk; exact Nat.not_lt_zero _ hk) ((hgp.kids.take _).app (hgp.kids.drop _)) ?_ (fun x hx => g.kids hf (rem_orders hx)) ?_
  · have := rem_heights p.kids k
    omega
  · have := rem_sizes hk
    have := g.sz
    omega
theorem Good.remove (g : Good top) (hA : Abs A top) (i : Int) : Good (Nd.remove top i).1 := by
  rcases hA.rem i with ⟨_, e⟩ | ⟨p, k, hk, _, _, _, _, hf, e, _⟩
  · rw [e]; exact g
  · rw [e]; exact g.rem hA.od hk hf
theorem find_in {i : Int} {n m : Nd} (hf : Nd.find i n = some m) (hg : Ga i n) : m.grp = true := (All.find n m hg hf).self (find_id i n m hf).1
theorem Good.move (g : Good top) (hA : Abs A top) (i p ix : Int) : Good (Nd.move top i p ix).1 := by
  rcases hA.rem i with ⟨h0, _⟩ | ⟨y, k, hk, h0, hid, hfi, hw, hf, e, o1, o2, o3⟩
  · rw [Nd.move, if_pos h0]; exact g
  have g1 := g.rem hA.od hk hf
  have hsz := size_with (y.kids.take k ++ y.kids.drop (k + 1)) top y hf hA.od
  have hrs := rem_sizes hk
  have hgn : Gp y.kids[k] := g.gp.found hfi
  rw [Nd.move, e]
  simp only [ne_eq, not_true_eq_false, if_false]
  split
  · exact g
  · rename_i m hm
    split
    · exact g
    · rename_i hg
      split
      · exact g
      · split
        · exact g
        · split
          · exact g
          · rename_i hd
            have hga : Ga p (Nd.with_ y.id (y.kids.take k ++ y.kids.drop (k + 1)) top) := by
              have := Ga.remove (Ga.of top hA.od fun m' hm' => by rw [hm] at hm'; cases hm'; simpa using hg) (j := p) i
              rw [e] at this; exact this
            generalize Nd.with_ y.id (y.kids.take k ++ y.kids.drop (k + 1)) top = t1 at *
            cases hf1 : Nd.find p t1 with
            | none =>
              have hn : p ∉ t1.order := fun hmm => by
                have := (find_some p t1).2 hmm
                rw [hf1] at this; cases this
              rw [with_none p _ t1 hn]; exact g1
            | some q =>
              rw [Option.getD_some]
              have hd1 := g1.deep hf1
              have hgq := (g1.gp.found hf1).kids
              refine g1.of_with o1 hf1 (find_in hf1 hga) ((hgq.take _).app (by rw [Alls]; exact ⟨hgn, hgq.drop _⟩)) ?_ (fun x hx => ?_) ?_
              · rw [heights_app, heights]
                have := heights_take q.kids ix.toNat
                have := heights_drop q.kids ix.toNat
                omega
              · rw [orders_app, orders] at hx
                rcases List.mem_append.1 hx with h | h
                · exact g1.kids hf1 (orders_take h)
                · rcases List.mem_append.1 h with h | h
                  · exact g.ids x (find_order hfi h)
                  · exact g1.kids hf1 (orders_drop h)
              · rw [sizes_app, sizes]
                have := sizes_td q.kids ix.toNat
                have := g.sz
                omega
theorem Good.wrap (g : Good top) (ho : top.order.Nodup) (i p ix c : Int) : Good (Nd.wrap top i p ix c).1 := by
  rw [Nd.wrap]
  split
  · exact g
  · rename_i m hm
    split
    · exact g
    · rename_i hg
      split
      · exact g
      · rename_i hb
        split
        · exact g
        · rename_i hf
          have hf0 : Nd.fits top (.mk i true []) (Nd.depth p top + 1) = 0 := Decidable.of_not_not hf
          obtain ⟨_, hx, hsz⟩ := fits_ok hf0
          split
          · exact g
          · rename_i hh
            have hd := g.deep hm
            have hmp := (g.gp.found hm).kids
            rw [Nd.height] at hh
            have hz : (Nd.mk i true []).size = 1 := by simp [Nd.size, sizes]
            have hx1 := hx i (by simp [order, orders])
            refine g.of_with ho hm (by simpa using hg) (Alls.app (hmp.take _) (by rw [Alls, All]; exact ⟨⟨fun _ => rfl, (hmp.drop _).take _⟩, hmp.drop _⟩)) ?_ (fun x hxm => ?_) ?_
            · rw [heights_app, heights, Nd.height]
              have := heights_take m.kids ix.toNat
              have := heights_drop m.kids (ix.toNat + c.toNat)
              omega
            · rw [orders_app, orders, order] at hxm
              rcases List.mem_append.1 hxm with h | h
              · exact g.kids hm (orders_take h)
              · rcases List.mem_append.1 h with h | h
                · rcases List.mem_cons.1 h with h | h
                  · subst h; exact .inr hx1.2
                  · exact g.kids hm (orders_drop (orders_take h))
                · exact g.kids hm (orders_drop h)
            · rw [sizes_app, sizes, Nd.size]
              have h1 := sizes_td m.kids ix.toNat
              have h2 := sizes_td (m.kids.drop ix.toNat) c.toNat
              rw [List.drop_drop] at h2
              omega
theorem Good.unwrap (g : Good top) (hA : Abs A top) (i : Int) : Good (Nd.unwrap top i).1 := by
  rcases hA.rem i with ⟨h0, _⟩ | ⟨y, k, hk, h0, hid, hfi, hw, hf, e, _⟩
  · rw [Nd.unwrap, if_pos h0]; exact g
  rw [Nd.unwrap, e]
  simp only [ne_eq, not_true_eq_false, if_false]
  split
  · exact g
  · rename_i hg
    have hd := g.deep hf
    have hgp := g.gp.found hf
    have hgn := g.gp.found hfi
    have hle : (y.kids[k]).height ≤ heights y.kids := by
      have := heights_drop y.kids k
      rw [drop_eq hk, heights] at this
      omega
    have hhe := height_eq y.kids[k]
    rw [hf, Option.getD_some, Int.toNat_natCast]
    refine g.of_with hA.od hf (hgp.self fun e => by rw [e] at hk; exact Nat.not_lt_zero _ hk) ((hgp.kids.take _).app (hgn.kids.app (hgp.kids.drop _))) ?_ (fun x hx => ?_) ?_
    · rw [heights_app, heights_app]
      have := heights_take y.kids k
      have := heights_drop y.kids (k + 1)
      omega
    · rw [orders_app, orders_app] at hx
      rcases List.mem_append.1 hx with h | h
      · exact g.kids hf (orders_take h)
      · rcases List.mem_append.1 h with h | h
        · exact g.ids x (find_order hfi (orders_kids h))
        · exact g.kids hf (orders_drop h)
    · rw [sizes_app, sizes_app]
      have h1 := rem_sizes hk
      rw [sizes_app] at h1
      have h2 : (y.kids[k]).size = 1 + sizes (y.kids[k]).kids := by generalize y.kids[k] = n; cases n; rfl
      have := g.sz
      omega
theorem Good.step {top' : Nd} (g : Good top) (hA : Abs A top) (h : Step1 top top') : Good top' := by
  rcases h with rfl | ⟨p, ix, n, rfl⟩ | ⟨i, rfl⟩ | ⟨i, p, ix, rfl⟩ | ⟨i, p, ix, c, rfl⟩ | ⟨i, rfl⟩
  · exact g
  · exact g.add hA.od p ix n
  · exact g.remove hA i
  · exact g.move hA i p ix
  · exact g.wrap hA.od i p ix c
  · exact g.unwrap hA i
end Nd
end Go.Tr

/-
  Tree, the plain law of a copy: arenas that are one but for where their lists lie.
-/

namespace Go.Tr
open Go.Sl Go.Ls
def Cel.key (c : Cel) : Int × Bool × Int × List Int := (c.id, c.grp, c.par, c.kids)
structure Ar.Like (A C : Ar) : Prop where
  key : C.cells.map Cel.key = A.cells.map Cel.key
  free : C.free = A.free
  at_ : C.at_ = A.at_
  cnt : C.cnt = A.cnt
theorem keys_len {l k : List Cel} (h : l.map Cel.key = k.map Cel.key) : l.length = k.length := by
  have := congrArg List.length h
  simpa using this
theorem keys_get {l k : List Cel} (h : l.map Cel.key = k.map Cel.key) (j : Nat) (hj : j < k.length) : ∃ hj' : j < l.length, l[j].id = k[j].id ∧ l[j].grp = k[j].grp ∧ l[j].par = k[j].par ∧ l[j].kids = k[j].kids := by
  have hl := keys_len h
  refine ⟨by omega, ?_⟩
  have h1 : (l.map Cel.key)[j]? = (k.map Cel.key)[j]? := by rw [h]
  rw [List.getElem?_map, List.getElem?_map, List.getElem?_eq_getElem (by omega), List.getElem?_eq_getElem hj] at h1
  simp only [Option.map_some, Option.some.injEq, Cel.key, Prod.mk.injEq] at h1
  exact h1
namespace Ar.Like
variable {A C : Ar}
theorem mem (h : Ar.Like A C) (c : Cel) (hc : c ∈ C.cells) : ∃ d ∈ A.cells, c.id = d.id ∧ c.par = d.par ∧ c.kids = d.kids := by
  obtain ⟨j, hj, rfl⟩ := List.getElem_of_mem hc
  obtain ⟨_, a, _, b, d⟩ := keys_get h.key j (by have := keys_len h.key; omega)
  exact ⟨_, List.getElem_mem (by have := keys_len h.key; omega), a, b, d⟩
theorem opt (h : Ar.Like A C) (j : Nat) : (C.cells[j]?).map Cel.key = (A.cells[j]?).map Cel.key := by
  rw [← List.getElem?_map, ← List.getElem?_map, h.key]
theorem kids (h : Ar.Like A C) (j : Nat) : (C.cells[j]?).map Cel.kids = (A.cells[j]?).map Cel.kids := by
  have := congrArg (Option.map fun k => k.2.2.2) (h.opt j)
  simpa [Option.map_map, Function.comp_def, Cel.key] using this
theorem idAt (h : Ar.Like A C) (j : Nat) : C.idAt j = A.idAt j := by
  have := congrArg (Option.map fun k => k.1) (h.opt j)
  have h2 : (C.cells[j]?).map Cel.id = (A.cells[j]?).map Cel.id := by simpa [Option.map_map, Function.comp_def, Cel.key] using this
  rw [Ar.idAt, Ar.idAt, h2]
theorem post (h : Ar.Like A C) : ∀ (nd : Nd) (i : Nat), Tr.post C i nd = Tr.post A i nd := by
  intro nd
  refine Nd.rec (motive_1 := fun nd => ∀ i, Tr.post C i nd = Tr.post A i nd) (motive_2 := fun ns => ∀ l, Tr.posts C l ns = Tr.posts A l ns) ?_ ?_ ?_ nd
  · intro id g ks ih i
    rw [Tr.post, Tr.post, h.kids, ih]
  · intro l
    cases l <;> rfl
  · intro n ns a b l
    cases l with
    | nil => rfl
    | cons k l => rw [Tr.posts, Tr.posts, a, b]
theorem tr (h : Ar.Like A C) {nd : Nd} {p : Int} {i : Nat} (ht : Tr A p i nd) : Tr C p i nd := by
  refine (Tr.ind (A := A) (P := fun p i nd => Tr C p i nd) (Ps := fun p l ns => Trs C p l ns) ?_ ?_ ?_).1 nd p i ht
  · intro p i nd hi a b c _ hk
    obtain ⟨hj, e1, e2, e3, e4⟩ := keys_get h.key i hi
    cases nd with
    | mk j g ks =>
      rw [Tr]
      exact ⟨hj, e1.trans a, e2.trans b, e3.trans c, by rw [e4]; exact hk⟩
  · intro p
    rw [Trs]
    trivial
  · intro p q l n ns _ _ a b
    rw [Trs]
    exact ⟨⟨q, rfl, a⟩, b⟩
theorem abs (h : Ar.Like A C) {top : Nd} (hA : Abs A top) : Abs C top := by
  have hl := keys_len h.key
  refine ⟨⟨by rw [hl]; exact hA.ok.len, fun i p hp => ?_, fun c hc => ?_, fun c hc => ?_, fun c hc => ?_⟩, h.tr hA.tr, hA.od, ?_, fun x hx => ?_, by rw [hl, h.free]; exact hA.len, by rw [hl]; exact hA.cap, fun j hj => ?_, fun i hi => ?_, by rw [h.cnt]; exact hA.cnt, hA.id0, hA.g0⟩
  · rw [h.at_] at hp
    rw [hl]
    exact hA.ok.at_lt i p hp
  · obtain ⟨d, hd, _, e, _⟩ := h.mem c hc
    rw [e]
    exact hA.ok.par d hd
  · obtain ⟨d, hd, e, _, _⟩ := h.mem c hc
    rw [e]
    exact hA.ok.id d hd
  · obtain ⟨d, hd, _, _, e⟩ := h.mem c hc
    rw [e]
    exact hA.ok.kidl d hd
  · rw [h.post, h.free]
    exact hA.nd
  · rw [h.free] at hx
    rw [hl]
    exact hA.frb x hx
  · rw [h.post] at hj
    rw [h.at_, h.idAt]
    exact hA.at_ j hj
  · rw [h.at_]
    exact hA.atn i hi
end Ar.Like
end Go.Tr

/-
  The library's slices: Clone at []tree.cell.
-/

namespace Go.Proofs.YtggcpoleklcmkaaGreatDoor
open Go.Sl Go.Ls Go.Tr
set_option maxRecDepth 100000
set_option maxHeartbeats 4000000
set_option linter.unusedVariables false
set_option linter.unusedSimpArgs false
attribute [local irreducible] WC WL WX WK WA WAK Val Ctr RunRes ResIs Rd At sl box pt Exit.then Exit.inBlock bodyPost Code.wp wpList
end Go.Proofs.YtggcpoleklcmkaaGreatDoor

/-
  Tree, the program's: Copy.
-/

namespace Go.Sl
end Go.Sl
namespace Go.Tr
open Go.Sl Go.Ls
/-- The cells of an arena are numbers and slices. -/
theorem Ar.one {A : Ar} {E : Ev} {w : World} {I : Mem} {L : List HP} (k : Nat) (hL : L[k]? = some (sts (A.cells.map Cel.row))) (hw : Sat E w I L) : A.flat.all Value.oneCell' = true := by
  rw [List.all_eq_true]
  intro v hv
  rw [Ar.flat, List.mem_flatten] at hv
  obtain ⟨l, hl, hv⟩ := hv
  obtain ⟨c, hc, rfl⟩ := List.mem_map.1 hl
  obtain ⟨i, hi, rfl⟩ := List.getElem_of_mem hc
  have h1 := hw.rowOne k i hL (v := (A.cells[i]).kv) (e := 3) (sz := 1) (by rw [List.getElem?_map, List.getElem?_eq_getElem hi]; rfl)
  simp only [Cel.cs, List.mem_cons, List.not_mem_nil, or_false] at hv
  rcases hv with rfl | rfl | rfl | rfl
  · rfl
  · rfl
  · rfl
  · exact h1
end Go.Tr
namespace Go.Proofs.YtggcpoleklcmkaaGreatDoor
open Go.Sl Go.Ls Go.Tr
set_option maxRecDepth 100000
set_option maxHeartbeats 8000000
set_option linter.unusedVariables false
set_option linter.unusedSimpArgs false
attribute [local irreducible] WC WL WX WK WA WAK Val Ctr RunRes ResIs Rd At sl box pt Exit.then Exit.inBlock bodyPost Code.wp wpList
end Go.Proofs.YtggcpoleklcmkaaGreatDoor

/-
  Tree, the program's: Node, whose answer's own kids are still one's own.
-/

namespace Go.Proofs.YtggcpoleklcmkaaGreatDoor
open Go.Sl Go.Ls Go.Tr
set_option maxRecDepth 100000
set_option maxHeartbeats 4000000
set_option linter.unusedVariables false
set_option linter.unusedSimpArgs false
attribute [local irreducible] WC WL WX WK WA WAK Val Ctr RunRes ResIs Rd At sl box pt Exit.then Exit.inBlock bodyPost Code.wp wpList
end Go.Proofs.YtggcpoleklcmkaaGreatDoor
