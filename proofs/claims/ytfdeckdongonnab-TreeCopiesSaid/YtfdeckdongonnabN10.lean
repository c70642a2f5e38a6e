/-
  Tree: arguments that read as data are rows of calls; what the rows of the laws have in common.
-/
import Derived.Test.YtfdeckdongonnabM2
import Derived.Test.YtfdeckdongonnabN3
import Derived.Test.YtfdeckdongonnabB2
import Derived.Test.YtfdeckdongonnabRows
import Derived.ProofKit
import Derived.Carry
import Derived.Lib.SmallJoins
import Derived.Test.YtfdeckdongonnabN11
namespace Go.Proofs.Ytfdeckdongonnab
open Go.ChangeShapes Go.WideShapes Go.ChangeAt Go.RowKit Go.Joins Go.Sl Go.Ls Go.Tr
set_option maxRecDepth 100000
set_option maxHeartbeats 4000000
set_option linter.unusedVariables false
instance : LvK Try.prog 100 (3 :: 4 :: 3 :: []) := ⟨by kernel_rfl⟩
instance : LvK Try.prog 44 (3 :: 3 :: 3 :: 3 :: 3 :: 42 :: []) := ⟨by kernel_rfl⟩
theorem all2_map {α β γ : Type} {R : β → γ → Prop} {X : α → β} {Y : α → γ} : ∀ (l : List α), (∀ i ∈ l, R (X i) (Y i)) → All2 R (l.map X) (l.map Y)
  | [], _ => trivial
  | a :: l, h => ⟨h a (List.mem_cons_self ..), all2_map l fun i hi => h i (List.mem_cons_of_mem _ hi)⟩
section
variable {H : Type} {enc : TypeId × Value → H} {W : World}
theorem open_ls {α : Type} {R : Rep α} {t e sz : Nat} [hk : SlK Try.prog t e sz] (hsz : 0 < sz) (hel : ∀ cs, TrodOk enc Try.prog W e cs → ∃ x, R (heapOf W) x cs) {cs : List Value} (h : TrodOk enc Try.prog W t cs) : ∃ l v, cs = [v] ∧ LsAt R (heapOf W) l v := by
  obtain ⟨a, len, cap, rfl, hc, h0 | ⟨b, off, rfl, hC⟩⟩ := h.slice hk.is hsz
  · subst h0
    exact ⟨[], _, rfl, [], ⟨a, cap, rfl, hc, .inl ⟨rfl, rfl⟩⟩, trivial⟩
  · rcases Nat.eq_zero_or_pos len with h0 | h0
    · subst h0
      exact ⟨[], _, rfl, [], ⟨_, cap, rfl, hc, .inl ⟨rfl, rfl⟩⟩, trivial⟩
    obtain ⟨C, hC⟩ := Go.Deep.choose_lt (p := fun i C => C.length = sz ∧ At (heapOf W) b (off + i * sz) C ∧ TrodOk enc Try.prog W e C) hC
    haveI : Inhabited α := ⟨(hel _ (hC 0 h0).2.2).choose⟩
    obtain ⟨X, hX⟩ := Go.Deep.choose_lt (p := fun i x => R (heapOf W) x (C i)) fun i hi => hel _ (hC i hi).2.2
    refine ⟨(List.range len).map X, _, rfl, (List.range len).map C, ⟨_, cap, by simp, by simpa using hc, .inr ⟨b, off, rfl, At.join len off h0 fun i hi => ⟨(hC i hi).1, (hC i hi).2.1⟩⟩⟩, all2_map _ fun i hi => hX i (List.mem_range.1 hi)⟩
theorem open_pl {cs : List Value} (h : TrodOk enc Try.prog W 100 cs) : ∃ x, Pl.rep (heapOf W) x cs := by
  replace h := h.leaves
  obtain ⟨c0, r0, hr0, t0, h⟩ := h.cons
  obtain ⟨n0, e0, b0⟩ := t0.i64
  cases e0
  obtain ⟨c1, r1, hr1, t1, h⟩ := h.cons
  obtain ⟨n1, e1⟩ := t1.b
  cases e1
  obtain ⟨c2, r2, hr2, t2, h⟩ := h.cons
  obtain ⟨n2, e2, b2⟩ := t2.i64
  cases e2
  have hn := h.nil
  subst hn
  subst hr2
  subst hr1
  subst hr0
  exact ⟨⟨n0, n1, n2⟩, rfl, b0, b2⟩
theorem open_op {cs : List Value} (h : TrodOk enc Try.prog W 44 cs) : ∃ x, Opn.rep (heapOf W) x cs := by
  replace h := h.leaves
  obtain ⟨c0, r0, hr0, t0, h⟩ := h.cons
  obtain ⟨n0, e0, b0⟩ := t0.i64
  cases e0
  obtain ⟨c1, r1, hr1, t1, h⟩ := h.cons
  obtain ⟨n1, e1, b1⟩ := t1.i64
  cases e1
  obtain ⟨c2, r2, hr2, t2, h⟩ := h.cons
  obtain ⟨n2, e2, b2⟩ := t2.i64
  cases e2
  obtain ⟨c3, r3, hr3, t3, h⟩ := h.cons
  obtain ⟨n3, e3, b3⟩ := t3.i64
  cases e3
  obtain ⟨c4, r4, hr4, t4, h⟩ := h.cons
  obtain ⟨n4, e4, b4⟩ := t4.i64
  cases e4
  obtain ⟨c5, r5, hr5, t5, h⟩ := h.cons
  obtain ⟨l5, v5, e5, b5⟩ := open_ls (R := Pl.rep) (t := 42) (by decide) (fun cs h => open_pl h) t5
  cases e5
  have hn := h.nil
  subst hn
  subst hr5
  subst hr4
  subst hr3
  subst hr2
  subst hr1
  subst hr0
  exact ⟨⟨n0, n1, n2, n3, n4, l5⟩, _, rfl, b0, b1, b2, b3, b4, b5⟩
theorem open_ops {cs : List Value} (h : TrodOk enc Try.prog W 35 cs) : ∃ l v, cs = [v] ∧ LsAt Opn.rep (heapOf W) l v := open_ls (t := 35) (by decide) (fun cs h => open_op h) h
end
theorem Try.own : ownKnob Try.prog.godebug = none := by kernel_rfl
theorem Try.laidOut : laidOutB Try.prog = true := by kernel_rfl
theorem opsUnd : Try.prog.underlying 35 = some (.slice 44) := by kernel_rfl
def isSt (P : Program) (t : TypeId) : Bool := match P.underlying t with | some (.struct _) => true | _ => false
theorem agg_of_struct {P : Program} {W : World} {r : Reach} {base t : Nat} {v : Value} (h : Value.okWide P W r base t v) (hs : isSt P t = true) : ∃ cs, v = .agg cs := by
  unfold isSt at hs
  split at hs
  · rename_i fs hu
    obtain ⟨cs, h, _⟩ := okWide_struct hu h
    exact ⟨cs, h⟩
  · cases hs
theorem opIsSt : isSt Try.prog 44 = true := by kernel_rfl
end Go.Proofs.Ytfdeckdongonnab

/-
  limnerlaw17.TreeCopies: for any two rows of calls the law returns true (a copy is the same, and stays so, whatever becomes of the first one). No condition.
-/

namespace Go.Proofs.Ytfdeckdongonnab
open Go.ChangeShapes Go.WideShapes Go.ChangeAt Go.RowKit Go.Joins Go.Sl Go.Ls Go.Tr

set_option maxRecDepth 100000 in
theorem lifted (os : Os) (started : os.Started) (H : Type) (enc : TypeId × Value → H) :
    ReturnsInHanded {} Try.checked os 5 .any (Rows.treeCopiesSpec.pre6 enc Try.prog Try.f5 Rows.treeCopiesRow.domain false) (Rows.treeCopiesSpec.post enc Try.prog Try.f5 false true false false) := by
  refine returnsInHanded_of_change (C := Try.checked) Try.own started (by kernel_rfl) Try.func5
    (ChangeSpec.witness6 (enc := enc) (C := Try.checked) false ⟨#[], #[.slice none 0 0, .slice none 0 0], []⟩ 8 (by kernel_rfl) (by kernel_rfl) (by kernel_rfl) (by kernel_rfl)) ?_
  intro W base args ds gs before hval0 hW hcnd _
  have hval : ∀ (j : Nat) t v, Try.f5.params[j]? = some t → args[j]? = some v → Value.okWide Try.prog W .any base t v := hval0
  have hW' := hW
  obtain ⟨p, q, hA0, hV, rfl, hfz, hnd⟩ := hW
  have hA : DataW.TrodAll enc Try.prog W 0 (fun _ => true) true Try.f5.params.toList args.toList ds p := hA0
  rw [Try.params5] at hA hval
  obtain ⟨v0, v1, d0, d1, p0, p1, rfl, rfl, rfl, h0, h1⟩ := trodAll_two hA
  obtain ⟨rfl, rfl⟩ := trodVars_none hV
  have hlt0 : ∀ x ∈ p0, x.block < W.heap.size := fun x hx => hW'.lt x (by simp [hx])
  have hlt1 : ∀ x ∈ p1, x.block < W.heap.size := fun x hx => hW'.lt x (by simp [hx])
  clear hA0 hval0
  obtain ⟨a, len, cap, rfl⟩ := okWide_slice (t := 35) opsUnd (hval 0 35 v0 rfl rfl)
  obtain ⟨x, v, e, hx⟩ := open_ops (TrodOk.of h0)
  cases e
  obtain ⟨a1, len1, cap1, rfl⟩ := okWide_slice (t := 35) opsUnd (hval 1 35 v1 rfl rfl)
  obtain ⟨y, v1, e1, hy⟩ := open_ops (TrodOk.of h1)
  cases e1
  refine (Ctr.calls (tCopies x y _ _ (heapOf W) hx hy)).mono fun e W' ⟨v, I', L', he, hb, hR⟩ => ?_
  obtain ⟨_, rfl⟩ := hR
  subst he
  have h2 := trodAll_mk2 (Below.trod Try.laidOut (by kernel_rfl) (of_decide_eq_true (by kernel_rfl)) h0 hb hlt0) (Below.trod Try.laidOut (by kernel_rfl) (of_decide_eq_true (by kernel_rfl)) h1 hb hlt1)
  simp only [List.append_nil] at hW'
  exact ⟨_, rfl, _, _, _, [], _, [], hW', trodAll_mk1 (shut_bool Try.underlying4 true), h2, rfl, hb.frame _, fun h => by cases h⟩
theorem treeCopies : Rows.TreeCopiesSaid :=
  OpenClaim.holds_of_wide 5 Try.f5 rfl rfl rfl rfl rfl rfl rfl ⟨rfl, rfl, rfl, rfl, rfl⟩ rfl rfl rfl rfl rfl (by kernel_rfl) Try.func5 (by kernel_rfl)
    (of_decide_eq_true (by kernel_rfl)) (by unfold Func.isWrapper; rw [if_neg (of_decide_eq_false (by kernel_rfl))]; exact ⟨rfl, rfl⟩)
    (fun os started H enc _ => lifted os started H enc)
#print axioms treeCopies
end Go.Proofs.Ytfdeckdongonnab
