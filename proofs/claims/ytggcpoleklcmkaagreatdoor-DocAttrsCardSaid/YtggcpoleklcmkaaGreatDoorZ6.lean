/-
  Drawings, the walks: attributes that are right; copies.
-/
import Derived.Test.YtggcpoleklcmkaaGreatDoorZ5
import Derived.Test.YtggcpoleklcmkaaGreatDoorX5
import Derived.Test.YtggcpoleklcmkaaGreatDoorX3
import Derived.Test.YtggcpoleklcmkaaGreatDoorX2
import Derived.Test.YtggcpoleklcmkaaGreatDoorZ1
import Derived.Test.YtggcpoleklcmkaaGreatDoorY4
namespace Go.Proofs.YtggcpoleklcmkaaGreatDoor
open Go.Sl Go.Ls Go.Dc
set_option maxRecDepth 100000
set_option maxHeartbeats 4000000
set_option linter.unusedVariables false
set_option linter.unusedSimpArgs false
attribute [local irreducible] WC WL WX WK WA WAK Val Ctr RunRes ResIs Rd At sl box pt Exit.then Exit.inBlock bodyPost Code.wp wpList
theorem atr_ctr (a : Atr) (b : Bool) (t u d q : Value) (I : Mem) (hN : NeedAt I) (ha : a.at_ I t u d q) : Ctr Tryz.prog 19 [.agg (a.cs t u d q).toArray, .bool b] I [] (Still I fun r => r = vi (a.check b)) := by
  have hs := ha.sty
  have hp := ha.path
  have hlb := hp.le
  obtain ⟨a1, c1, a2, c2, a3, c3, a4, c4, rfl, rfl, rfl, rfl⟩ := ha.sl
  refine Ctr.intro Tryz.func19 rfl rfl rfl fun E F => ?_
  refine WC.seq ?_
  refine WC.region ?_
  (refine WL.boxA rfl rfl ?_; intro _)
  refine WL.nApp ?_
  refine WL.val (Val.assignI rfl) rfl ?_
  refine WL.nil ?_
  refine WX.thenC ?_
  refine WC.seq ?_
  refine WC.seq ?_
  refine WC.region ?_
  refine WL.val (Val.fldAddr rfl) rfl ?_
  refine WL.val (Val.ldO 1 rfl rfl rfl) rfl ?_
  refine WL.callE rfl rfl (mtxRight_ctr a.mtx _) rfl (fun h1 => ?_) (fun h1 => ?_)
  case refine_2 =>
    refine WL.val (Val.not rfl) rfl ?_
    refine WL.nil ?_
    refine WX.thenC ?_
    refine WC.condT rfl ?_
    refine WC.seq ?_
    refine WC.region ?_
    refine WL.val (Val.assignI rfl) rfl ?_
    refine WL.nil ?_
    refine WX.thenC ?_
    refine WC.ret ?_
    refine WX.thenRet ?_
    apply WX.doneP (ks := [])
    case hres => exact RunRes.r1 rfl (ResIs.tmpI rfl)
    case hI => first | exact Mem.le.refl _ | assumption
    exact ⟨rfl, rfl, by rw [Atr.check, if_pos h1]⟩
  refine WL.val (Val.not rfl) rfl ?_
  refine WL.nil ?_
  refine WX.thenC ?_
  refine WC.condF rfl ?_
  refine WC.skip ?_
  refine WX.thenC ?_
  refine WC.seq ?_
  refine WC.seq ?_
  refine WC.region ?_
  refine WL.val (Val.fldAddr rfl) rfl ?_
  refine WL.val (Val.ldO 1 rfl rfl rfl) rfl ?_
  refine WL.callS rfl rfl (sty_ctr a.sty _ _ _ _ hs) rfl ?_
  rintro _ rfl
  by_cases h2 : a.sty.check = 0
  case neg =>
    refine WL.val (Val.assignI rfl) rfl ?_
    refine WL.nil ?_
    refine WX.thenC ?_
    refine WC.seq ?_
    refine WC.region ?_
    refine WL.val (Val.moveI rfl) rfl ?_
    refine WL.val (Val.neq rfl rfl (bne_iff_ne.2 (by omega))) rfl ?_
    refine WL.nil ?_
    refine WX.thenC ?_
    refine WC.condT rfl ?_
    refine WC.seq ?_
    refine WC.region ?_
    refine WL.val (Val.moveI rfl) rfl ?_
    refine WL.val (Val.assignI rfl) rfl ?_
    refine WL.nil ?_
    refine WX.thenC ?_
    refine WC.ret ?_
    refine WX.thenRet ?_
    apply WX.doneP (ks := [])
    case hres => exact RunRes.r1 rfl (ResIs.tmpI rfl)
    case hI => first | exact Mem.le.refl _ | assumption
    exact ⟨rfl, rfl, by rw [Atr.check, if_neg (fun e => e h1), if_pos h2]⟩
  refine WL.val (Val.assignI rfl) rfl ?_
  refine WL.nil ?_
  refine WX.thenC ?_
  refine WC.seq ?_
  refine WC.region ?_
  refine WL.val (Val.moveI rfl) rfl ?_
  refine WL.val (Val.neq rfl rfl (bne_eq_false_iff_eq.2 (by omega))) rfl ?_
  refine WL.nil ?_
  refine WX.thenC ?_
  refine WC.condF rfl ?_
  refine WC.skip ?_
  refine WX.thenC ?_
  refine WC.seq ?_
  refine WC.seq ?_
  refine WC.region ?_
  refine WL.val (Val.fldAddr rfl) rfl ?_
  refine WL.val (Val.loadS rfl (Rd.own1 1 rfl rfl)) rfl ?_
  refine WL.callS rfl rfl (path_ctr a.path _ _ hN hp) rfl ?_
  rintro _ rfl
  by_cases h3 : pathCheck a.path = 0
  case neg =>
    refine WL.val (Val.assignI rfl) rfl ?_
    refine WL.nil ?_
    refine WX.thenC ?_
    refine WC.seq ?_
    refine WC.region ?_
    refine WL.val (Val.moveI rfl) rfl ?_
    refine WL.val (Val.neq rfl rfl (bne_iff_ne.2 (by omega))) rfl ?_
    refine WL.nil ?_
    refine WX.thenC ?_
    refine WC.condT rfl ?_
    refine WC.seq ?_
    refine WC.region ?_
    refine WL.val (Val.moveI rfl) rfl ?_
    refine WL.val (Val.assignI rfl) rfl ?_
    refine WL.nil ?_
    refine WX.thenC ?_
    refine WC.ret ?_
    refine WX.thenRet ?_
    apply WX.doneP (ks := [])
    case hres => exact RunRes.r1 rfl (ResIs.tmpI rfl)
    case hI => first | exact Mem.le.refl _ | assumption
    exact ⟨rfl, rfl, by rw [Atr.check, if_neg (fun e => e h1), if_neg (fun e => e h2), if_pos h3]⟩
  have hc : a.check b = if b = true ∧ 0 < a.path.length then 33 else 0 := by rw [Atr.check, if_neg (fun e => e h1), if_neg (fun e => e h2), if_neg (fun e => e h3)]
  rw [hc]
  by_cases h4 : 0 < a.path.length
  · cases b with
    | true =>
      refine WL.val (Val.assignI rfl) rfl ?_
      refine WL.nil ?_
      refine WX.thenC ?_
      refine WC.seq ?_
      refine WC.region ?_
      refine WL.val (Val.moveI rfl) rfl ?_
      refine WL.val (Val.neq rfl rfl (bne_eq_false_iff_eq.2 (by omega))) rfl ?_
      refine WL.nil ?_
      refine WX.thenC ?_
      refine WC.condF rfl ?_
      refine WC.skip ?_
      refine WX.thenC ?_
      refine WC.seq ?_
      refine WC.seq ?_
      refine WC.region ?_
      refine WL.val (Val.moveB rfl) rfl ?_
      refine WL.val (Val.moveB rfl) rfl ?_
      refine WL.gT rfl rfl ?_
      refine WL.val (Val.fldAddr rfl) rfl ?_
      refine WL.gT rfl rfl ?_
      refine WL.val (Val.loadS rfl (Rd.own1 1 rfl rfl)) rfl ?_
      refine WL.gT rfl rfl ?_
      refine WL.val (Val.len rfl) rfl ?_
      refine WL.gT rfl rfl ?_
      refine WL.val (Val.gtr rfl rfl (decide_eq_true (by omega))) rfl ?_
      refine WL.val (Val.pick rfl) rfl ?_
      refine WL.nil ?_
      refine WX.thenC ?_
      refine WC.condT rfl ?_
      refine WC.seq ?_
      refine WC.region ?_
      refine WL.val (Val.assignI rfl) rfl ?_
      refine WL.nil ?_
      refine WX.thenC ?_
      refine WC.ret ?_
      refine WX.thenRet ?_
      apply WX.doneP (ks := [])
      case hres => exact RunRes.r1 rfl (ResIs.tmpI rfl)
      case hI => first | exact Mem.le.refl _ | assumption
      exact ⟨rfl, rfl, by rw [if_pos ⟨rfl, h4⟩]⟩
    | false =>
      refine WL.val (Val.assignI rfl) rfl ?_
      refine WL.nil ?_
      refine WX.thenC ?_
      refine WC.seq ?_
      refine WC.region ?_
      refine WL.val (Val.moveI rfl) rfl ?_
      refine WL.val (Val.neq rfl rfl (bne_eq_false_iff_eq.2 (by omega))) rfl ?_
      refine WL.nil ?_
      refine WX.thenC ?_
      refine WC.condF rfl ?_
      refine WC.skip ?_
      refine WX.thenC ?_
      refine WC.seq ?_
      refine WC.seq ?_
      refine WC.region ?_
      refine WL.val (Val.moveB rfl) rfl ?_
      refine WL.val (Val.moveB rfl) rfl ?_
      refine WL.gF rfl rfl rfl rfl ?_
      refine WL.gF rfl rfl rfl rfl ?_
      refine WL.gF rfl rfl rfl rfl ?_
      refine WL.gF rfl rfl rfl rfl ?_
      refine WL.val (Val.pick rfl) rfl ?_
      refine WL.nil ?_
      refine WX.thenC ?_
      refine WC.condF rfl ?_
      refine WC.skip ?_
      refine WX.thenC ?_
      refine WC.seq ?_
      refine WC.region ?_
      refine WL.val (Val.assignI rfl) rfl ?_
      refine WL.nil ?_
      refine WX.thenC ?_
      refine WC.ret ?_
      apply WX.doneP (ks := [])
      case hres => exact RunRes.r1 rfl (ResIs.tmpI rfl)
      case hI => first | exact Mem.le.refl _ | assumption
      exact ⟨rfl, rfl, by rw [if_neg (fun e => by cases e.1)]⟩
  · cases b with
    | true =>
      refine WL.val (Val.assignI rfl) rfl ?_
      refine WL.nil ?_
      refine WX.thenC ?_
      refine WC.seq ?_
      refine WC.region ?_
      refine WL.val (Val.moveI rfl) rfl ?_
      refine WL.val (Val.neq rfl rfl (bne_eq_false_iff_eq.2 (by omega))) rfl ?_
      refine WL.nil ?_
      refine WX.thenC ?_
      refine WC.condF rfl ?_
      refine WC.skip ?_
      refine WX.thenC ?_
      refine WC.seq ?_
      refine WC.seq ?_
      refine WC.region ?_
      refine WL.val (Val.moveB rfl) rfl ?_
      refine WL.val (Val.moveB rfl) rfl ?_
      refine WL.gT rfl rfl ?_
      refine WL.val (Val.fldAddr rfl) rfl ?_
      refine WL.gT rfl rfl ?_
      refine WL.val (Val.loadS rfl (Rd.own1 1 rfl rfl)) rfl ?_
      refine WL.gT rfl rfl ?_
      refine WL.val (Val.len rfl) rfl ?_
      refine WL.gT rfl rfl ?_
      refine WL.val (Val.gtr rfl rfl (decide_eq_false (by omega))) rfl ?_
      refine WL.val (Val.pick rfl) rfl ?_
      refine WL.nil ?_
      refine WX.thenC ?_
      refine WC.condF rfl ?_
      refine WC.skip ?_
      refine WX.thenC ?_
      refine WC.seq ?_
      refine WC.region ?_
      refine WL.val (Val.assignI rfl) rfl ?_
      refine WL.nil ?_
      refine WX.thenC ?_
      refine WC.ret ?_
      apply WX.doneP (ks := [])
      case hres => exact RunRes.r1 rfl (ResIs.tmpI rfl)
      case hI => first | exact Mem.le.refl _ | assumption
      exact ⟨rfl, rfl, by rw [if_neg (fun e => h4 e.2)]⟩
    | false =>
      refine WL.val (Val.assignI rfl) rfl ?_
      refine WL.nil ?_
      refine WX.thenC ?_
      refine WC.seq ?_
      refine WC.region ?_
      refine WL.val (Val.moveI rfl) rfl ?_
      refine WL.val (Val.neq rfl rfl (bne_eq_false_iff_eq.2 (by omega))) rfl ?_
      refine WL.nil ?_
      refine WX.thenC ?_
      refine WC.condF rfl ?_
      refine WC.skip ?_
      refine WX.thenC ?_
      refine WC.seq ?_
      refine WC.seq ?_
      refine WC.region ?_
      refine WL.val (Val.moveB rfl) rfl ?_
      refine WL.val (Val.moveB rfl) rfl ?_
      refine WL.gF rfl rfl rfl rfl ?_
      refine WL.gF rfl rfl rfl rfl ?_
      refine WL.gF rfl rfl rfl rfl ?_
      refine WL.gF rfl rfl rfl rfl ?_
      refine WL.val (Val.pick rfl) rfl ?_
      refine WL.nil ?_
      refine WX.thenC ?_
      refine WC.condF rfl ?_
      refine WC.skip ?_
      refine WX.thenC ?_
      refine WC.seq ?_
      refine WC.region ?_
      refine WL.val (Val.assignI rfl) rfl ?_
      refine WL.nil ?_
      refine WX.thenC ?_
      refine WC.ret ?_
      apply WX.doneP (ks := [])
      case hres => exact RunRes.r1 rfl (ResIs.tmpI rfl)
      case hI => first | exact Mem.le.refl _ | assumption
      exact ⟨rfl, rfl, by rw [if_neg (fun e => h4 e.2)]⟩
/-- What is there is copied into new memory. -/
def NewL {α : Type} (R : Rep α) (e sz : Nat) (l : List α) (I : Mem) : Value → Mem → List HP → Prop := fun r I' L' => I' = I ∧ ∃ a c p, r = .slice a l.length c ∧ L' = [p] ∧ OwnL R e sz I l r p
theorem cloneSg (l : List Sg) (v : Value) (I : Mem) (hv : LsAt Sg.rep I l v) (hl : l.length ≤ 1000000000) : Ctr Tryz.prog 145 [v] I [] (NewL Sg.rep 57 7 l I) := by
  have hv0 := hv
  obtain ⟨a1, c1, rfl⟩ := hv0.sl
  refine Ctr.intro Tryz.func145 rfl rfl rfl fun E F => ?_
  cases a1 with
  | none =>
    have h0 : l = [] := by
      obtain ⟨css, ⟨a, cap, he, hc, h | ⟨b, off, h, _⟩⟩, h2⟩ := hv
      · exact List.eq_nil_of_length_eq_zero h.1
      · cases he; cases h
    subst h0
    refine WC.seq ?_
    refine WC.region ?_
    refine WL.val (Val.assignS rfl) rfl ?_
    refine WL.nil ?_
    refine WX.thenC ?_
    refine WC.seq ?_
    refine WC.seq ?_
    refine WC.region ?_
    refine WL.val (Val.moveS rfl) rfl ?_
    refine WL.val (Val.eqlNil rfl) rfl ?_
    refine WL.slNil 57 7 ?_
    refine WL.nApp ?_
    refine WL.nil ?_
    refine WX.thenC ?_
    refine WC.condT rfl ?_
    refine WC.seq ?_
    refine WC.region ?_
    refine WL.val (Val.assignS rfl) rfl ?_
    refine WL.nil ?_
    refine WX.thenC ?_
    refine WC.ret ?_
    refine WX.thenRet ?_
    apply WX.doneP (ks := [0])
    case hres => exact RunRes.r1 rfl (ResIs.tmpS rfl)
    case hI => first | exact Mem.le.refl _ | assumption
    exact ⟨rfl, _, _, _, rfl, rfl, OwnL.nil _ _ _ _⟩
  | some a =>
    refine WC.seq ?_
    refine WC.region ?_
    refine WL.val (Val.assignS rfl) rfl ?_
    refine WL.nil ?_
    refine WX.thenC ?_
    refine WC.seq ?_
    refine WC.seq ?_
    refine WC.region ?_
    refine WL.val (Val.moveS rfl) rfl ?_
    refine WL.val (Val.eqlNil rfl) rfl ?_
    refine WL.nil ?_
    refine WX.thenC ?_
    refine WC.condF rfl ?_
    refine WC.skip ?_
    refine WX.thenC ?_
    refine WC.seq ?_
    refine WC.region ?_
    (refine WL.buildSlice (by with_unfolding_all exact rfl) rfl (by with_unfolding_all exact rfl) rfl ?_; intro _)
    refine WL.nApp ?_
    refine WL.val (Val.moveS rfl) rfl ?_
    refine WL.boxSl (e := 57) (sz := 7) (n := 0) (xs := []) 1 rfl rfl (by decide) ?_
    refine WL.appL (R := Sg.rep) (l := []) (m := l) 1 rfl rfl ⟨[], rfl, trivial⟩ rfl hv (fun x cs h => by rw [h.1]; rfl) (by rfl) (by decide) (by simp only [List.length_nil]; omega) (by unfold maxLen; simp only [List.length_nil]; omega) rfl fun aa cc p' hp' => ?_
    refine WL.nSet ?_
    refine WL.val (Val.assignS rfl) rfl ?_
    refine WL.nil ?_
    refine WX.thenC ?_
    refine WC.ret ?_
    rw [List.nil_append] at hp' ⊢
    apply WX.doneP (ks := [0])
    case hres => exact RunRes.r1 rfl (ResIs.tmpS rfl)
    case hI => first | exact Mem.le.refl _ | assumption
    exact ⟨rfl, _, _, _, rfl, rfl, hp'⟩
theorem cloneStp (l : List Stp) (v : Value) (I : Mem) (hv : LsAt Stp.rep I l v) (hl : l.length ≤ 1000000000) : Ctr Tryz.prog 146 [v] I [] (NewL Stp.rep 203 5 l I) := by
  have hv0 := hv
  obtain ⟨a1, c1, rfl⟩ := hv0.sl
  refine Ctr.intro Tryz.func146 rfl rfl rfl fun E F => ?_
  cases a1 with
  | none =>
    have h0 : l = [] := by
      obtain ⟨css, ⟨a, cap, he, hc, h | ⟨b, off, h, _⟩⟩, h2⟩ := hv
      · exact List.eq_nil_of_length_eq_zero h.1
      · cases he; cases h
    subst h0
    refine WC.seq ?_
    refine WC.region ?_
    refine WL.val (Val.assignS rfl) rfl ?_
    refine WL.nil ?_
    refine WX.thenC ?_
    refine WC.seq ?_
    refine WC.seq ?_
    refine WC.region ?_
    refine WL.val (Val.moveS rfl) rfl ?_
    refine WL.val (Val.eqlNil rfl) rfl ?_
    refine WL.slNil 203 5 ?_
    refine WL.nApp ?_
    refine WL.nil ?_
    refine WX.thenC ?_
    refine WC.condT rfl ?_
    refine WC.seq ?_
    refine WC.region ?_
    refine WL.val (Val.assignS rfl) rfl ?_
    refine WL.nil ?_
    refine WX.thenC ?_
    refine WC.ret ?_
    refine WX.thenRet ?_
    apply WX.doneP (ks := [0])
    case hres => exact RunRes.r1 rfl (ResIs.tmpS rfl)
    case hI => first | exact Mem.le.refl _ | assumption
    exact ⟨rfl, _, _, _, rfl, rfl, OwnL.nil _ _ _ _⟩
  | some a =>
    refine WC.seq ?_
    refine WC.region ?_
    refine WL.val (Val.assignS rfl) rfl ?_
    refine WL.nil ?_
    refine WX.thenC ?_
    refine WC.seq ?_
    refine WC.seq ?_
    refine WC.region ?_
    refine WL.val (Val.moveS rfl) rfl ?_
    refine WL.val (Val.eqlNil rfl) rfl ?_
    refine WL.nil ?_
    refine WX.thenC ?_
    refine WC.condF rfl ?_
    refine WC.skip ?_
    refine WX.thenC ?_
    refine WC.seq ?_
    refine WC.region ?_
    (refine WL.buildSlice (by with_unfolding_all exact rfl) rfl (by with_unfolding_all exact rfl) rfl ?_; intro _)
    refine WL.nApp ?_
    refine WL.val (Val.moveS rfl) rfl ?_
    refine WL.boxSl (e := 203) (sz := 5) (n := 0) (xs := []) 1 rfl rfl (by decide) ?_
    refine WL.appL (R := Stp.rep) (l := []) (m := l) 1 rfl rfl ⟨[], rfl, trivial⟩ rfl hv (fun x cs h => by rw [h.1]; rfl) (by rfl) (by decide) (by simp only [List.length_nil]; omega) (by unfold maxLen; simp only [List.length_nil]; omega) rfl fun aa cc p' hp' => ?_
    refine WL.nSet ?_
    refine WL.val (Val.assignS rfl) rfl ?_
    refine WL.nil ?_
    refine WX.thenC ?_
    refine WC.ret ?_
    rw [List.nil_append] at hp' ⊢
    apply WX.doneP (ks := [0])
    case hres => exact RunRes.r1 rfl (ResIs.tmpS rfl)
    case hI => first | exact Mem.le.refl _ | assumption
    exact ⟨rfl, _, _, _, rfl, rfl, hp'⟩
theorem cloneI (l : List Int) (v : Value) (I : Mem) (hv : LsAt Ls.Int.rep I l v) (hl : l.length ≤ 1000000000) : Ctr Tryz.prog 119 [v] I [] (NewL Ls.Int.rep 3 1 l I) := by
  have hv0 := hv
  obtain ⟨a1, c1, rfl⟩ := hv0.sl
  refine Ctr.intro Tryz.func119 rfl rfl rfl fun E F => ?_
  cases a1 with
  | none =>
    have h0 : l = [] := by
      obtain ⟨css, ⟨a, cap, he, hc, h | ⟨b, off, h, _⟩⟩, h2⟩ := hv
      · exact List.eq_nil_of_length_eq_zero h.1
      · cases he; cases h
    subst h0
    refine WC.seq ?_
    refine WC.region ?_
    refine WL.val (Val.assignS rfl) rfl ?_
    refine WL.nil ?_
    refine WX.thenC ?_
    refine WC.seq ?_
    refine WC.seq ?_
    refine WC.region ?_
    refine WL.val (Val.moveS rfl) rfl ?_
    refine WL.val (Val.eqlNil rfl) rfl ?_
    refine WL.slNil 3 1 ?_
    refine WL.nApp ?_
    refine WL.nil ?_
    refine WX.thenC ?_
    refine WC.condT rfl ?_
    refine WC.seq ?_
    refine WC.region ?_
    refine WL.val (Val.assignS rfl) rfl ?_
    refine WL.nil ?_
    refine WX.thenC ?_
    refine WC.ret ?_
    refine WX.thenRet ?_
    apply WX.doneP (ks := [0])
    case hres => exact RunRes.r1 rfl (ResIs.tmpS rfl)
    case hI => first | exact Mem.le.refl _ | assumption
    exact ⟨rfl, _, _, _, rfl, rfl, OwnL.nil _ _ _ _⟩
  | some a =>
    refine WC.seq ?_
    refine WC.region ?_
    refine WL.val (Val.assignS rfl) rfl ?_
    refine WL.nil ?_
    refine WX.thenC ?_
    refine WC.seq ?_
    refine WC.seq ?_
    refine WC.region ?_
    refine WL.val (Val.moveS rfl) rfl ?_
    refine WL.val (Val.eqlNil rfl) rfl ?_
    refine WL.nil ?_
    refine WX.thenC ?_
    refine WC.condF rfl ?_
    refine WC.skip ?_
    refine WX.thenC ?_
    refine WC.seq ?_
    refine WC.region ?_
    (refine WL.buildSlice (by with_unfolding_all exact rfl) rfl (by with_unfolding_all exact rfl) rfl ?_; intro _)
    refine WL.nApp ?_
    refine WL.val (Val.moveS rfl) rfl ?_
    refine WL.boxSl (e := 3) (sz := 1) (n := 0) (xs := []) 1 rfl rfl (by decide) ?_
    refine WL.appL (R := Ls.Int.rep) (l := []) (m := l) 1 rfl rfl ⟨[], rfl, trivial⟩ rfl hv (fun x cs h => by rw [h.1]; rfl) (by rfl) (by decide) (by simp only [List.length_nil]; omega) (by unfold maxLen; simp only [List.length_nil]; omega) rfl fun aa cc p' hp' => ?_
    refine WL.nSet ?_
    refine WL.val (Val.assignS rfl) rfl ?_
    refine WL.nil ?_
    refine WX.thenC ?_
    refine WC.ret ?_
    rw [List.nil_append] at hp' ⊢
    apply WX.doneP (ks := [0])
    case hres => exact RunRes.r1 rfl (ResIs.tmpS rfl)
    case hI => first | exact Mem.le.refl _ | assumption
    exact ⟨rfl, _, _, _, rfl, rfl, hp'⟩
end Go.Proofs.YtggcpoleklcmkaaGreatDoor

/-
  Drawings, the walks: attributes in new memory; small ones; plain ones.
-/

namespace Go.Dc
open Go.Sl Go.Ls
def Atr.lim (a : Atr) : Prop := a.path.length ≤ 1000000 ∧ a.sty.fill.stops.length ≤ 1000000 ∧ a.sty.pen.stops.length ≤ 1000000 ∧ a.sty.dash.length ≤ 1000000
def Atr.small (a : Atr) : Prop := a.path.length ≤ 30 ∧ a.sty.fill.stops.length ≤ 30 ∧ a.sty.pen.stops.length ≤ 30 ∧ a.sty.dash.length ≤ 30
theorem Atr.small.lim {a : Atr} (h : a.small) : a.lim := ⟨by have := h.1; omega, by have := h.2.1; omega, by have := h.2.2.1; omega, by have := h.2.2.2; omega⟩
/-- Attributes, in the immutable heap. -/
def AtrV (a : Atr) : Value → Mem → Prop := fun v I' => ∃ t u d q, v = .agg (a.cs t u d q).toArray ∧ a.at_ I' t u d q
def plainAtr : Atr := ⟨⟨65536, 0, 0, 65536, 0, 0⟩, ⟨Pnt.z, Pnt.z, 1, 0, 0, [], 0, 255, 0⟩, []⟩
end Go.Dc
namespace Go.Proofs.YtggcpoleklcmkaaGreatDoor
open Go.Sl Go.Ls Go.Dc
set_option maxRecDepth 100000
set_option maxHeartbeats 4000000
set_option linter.unusedVariables false
set_option linter.unusedSimpArgs false
attribute [local irreducible] WC WL WX WK WA WAK Val Ctr RunRes ResIs Rd At sl box pt Exit.then Exit.inBlock bodyPost Code.wp wpList
theorem smallAttr_ctr (a : Atr) (t u d q : Value) (I : Mem) (ha : a.at_ I t u d q) :
    Ctr Tryz.prog 14 [.agg (a.cs t u d q).toArray] I [] (Still I (EqP a.small)) := by
  obtain ⟨a1, c1, a2, c2, a3, c3, a4, c4, rfl, rfl, rfl, rfl⟩ := ha.sl
  refine Ctr.intro Tryz.func14 rfl rfl rfl fun E F => ?_
  refine WC.seq ?_
  refine WC.region ?_
  (refine WL.boxA rfl rfl ?_; intro _)
  refine WL.nApp ?_
  refine WL.val (Val.assignB rfl) rfl ?_
  refine WL.nil ?_
  refine WX.thenC ?_
  refine WC.seq ?_
  refine WC.region ?_
  refine WL.val (Val.fldAddr rfl) rfl ?_
  refine WL.val (Val.loadS rfl (Rd.own1 1 rfl rfl)) rfl ?_
  refine WL.val (Val.len rfl) rfl ?_
  refine WL.leI rfl rfl rfl (fun h => ?_) (fun h => ?_)
  refine WL.val (Val.moveB rfl) rfl ?_
  refine WL.gT rfl rfl ?_
  refine WL.val (Val.fldAddr rfl) rfl ?_
  refine WL.gT rfl rfl ?_
  refine WL.val (Val.fldAddr rfl) rfl ?_
  refine WL.gT rfl rfl ?_
  refine WL.val (Val.fldAddr rfl) rfl ?_
  refine WL.gT rfl rfl ?_
  refine WL.val (Val.loadS rfl (Rd.own1 1 rfl rfl)) rfl ?_
  refine WL.gT rfl rfl ?_
  refine WL.val (Val.len rfl) rfl ?_
  refine WL.gT rfl rfl ?_
  refine WL.leI rfl rfl rfl (fun h => ?_) (fun h => ?_)
  refine WL.val (Val.pick rfl) rfl ?_
  refine WL.val (Val.moveB rfl) rfl ?_
  refine WL.gT rfl rfl ?_
  refine WL.val (Val.fldAddr rfl) rfl ?_
  refine WL.gT rfl rfl ?_
  refine WL.val (Val.fldAddr rfl) rfl ?_
  refine WL.gT rfl rfl ?_
  refine WL.val (Val.fldAddr rfl) rfl ?_
  refine WL.gT rfl rfl ?_
  refine WL.val (Val.loadS rfl (Rd.own1 1 rfl rfl)) rfl ?_
  refine WL.gT rfl rfl ?_
  refine WL.val (Val.len rfl) rfl ?_
  refine WL.gT rfl rfl ?_
  refine WL.leI rfl rfl rfl (fun h => ?_) (fun h => ?_)
  refine WL.val (Val.pick rfl) rfl ?_
  refine WL.val (Val.moveB rfl) rfl ?_
  refine WL.gT rfl rfl ?_
  refine WL.val (Val.fldAddr rfl) rfl ?_
  refine WL.gT rfl rfl ?_
  refine WL.val (Val.fldAddr rfl) rfl ?_
  refine WL.gT rfl rfl ?_
  refine WL.val (Val.fldAddr rfl) rfl ?_
  refine WL.gT rfl rfl ?_
  refine WL.val (Val.loadS rfl (Rd.own1 1 rfl rfl)) rfl ?_
  refine WL.gT rfl rfl ?_
  refine WL.val (Val.len rfl) rfl ?_
  refine WL.gT rfl rfl ?_
  refine WL.leI rfl rfl rfl (fun h => ?_) (fun h => ?_)
  refine WL.val (Val.pick rfl) rfl ?_
  refine WL.val (Val.assignB rfl) rfl ?_
  refine WL.nil ?_
  refine WX.thenC ?_
  refine WC.ret ?_
  rotate_left
  refine WL.val (Val.pick rfl) rfl ?_
  refine WL.val (Val.assignB rfl) rfl ?_
  refine WL.nil ?_
  refine WX.thenC ?_
  refine WC.ret ?_
  rotate_left
  refine WL.val (Val.pick rfl) rfl ?_
  refine WL.val (Val.moveB rfl) rfl ?_
  refine WL.gF rfl rfl rfl rfl ?_
  refine WL.gF rfl rfl rfl rfl ?_
  refine WL.gF rfl rfl rfl rfl ?_
  refine WL.gF rfl rfl rfl rfl ?_
  refine WL.gF rfl rfl rfl rfl ?_
  refine WL.gF rfl rfl rfl rfl ?_
  refine WL.val (Val.pick rfl) rfl ?_
  refine WL.val (Val.assignB rfl) rfl ?_
  refine WL.nil ?_
  refine WX.thenC ?_
  refine WC.ret ?_
  rotate_left
  refine WL.val (Val.pick rfl) rfl ?_
  refine WL.val (Val.moveB rfl) rfl ?_
  refine WL.gF rfl rfl rfl rfl ?_
  refine WL.gF rfl rfl rfl rfl ?_
  refine WL.gF rfl rfl rfl rfl ?_
  refine WL.gF rfl rfl rfl rfl ?_
  refine WL.gF rfl rfl rfl rfl ?_
  refine WL.gF rfl rfl rfl rfl ?_
  refine WL.val (Val.pick rfl) rfl ?_
  refine WL.val (Val.moveB rfl) rfl ?_
  refine WL.gF rfl rfl rfl rfl ?_
  refine WL.gF rfl rfl rfl rfl ?_
  refine WL.gF rfl rfl rfl rfl ?_
  refine WL.gF rfl rfl rfl rfl ?_
  refine WL.gF rfl rfl rfl rfl ?_
  refine WL.gF rfl rfl rfl rfl ?_
  refine WL.val (Val.pick rfl) rfl ?_
  refine WL.val (Val.assignB rfl) rfl ?_
  refine WL.nil ?_
  refine WX.thenC ?_
  refine WC.ret ?_
  rotate_left
  refine WL.val (Val.moveB rfl) rfl ?_
  refine WL.gF rfl rfl rfl rfl ?_
  refine WL.gF rfl rfl rfl rfl ?_
  refine WL.gF rfl rfl rfl rfl ?_
  refine WL.gF rfl rfl rfl rfl ?_
  refine WL.gF rfl rfl rfl rfl ?_
  refine WL.gF rfl rfl rfl rfl ?_
  refine WL.val (Val.pick rfl) rfl ?_
  refine WL.val (Val.moveB rfl) rfl ?_
  refine WL.gF rfl rfl rfl rfl ?_
  refine WL.gF rfl rfl rfl rfl ?_
  refine WL.gF rfl rfl rfl rfl ?_
  refine WL.gF rfl rfl rfl rfl ?_
  refine WL.gF rfl rfl rfl rfl ?_
  refine WL.gF rfl rfl rfl rfl ?_
  refine WL.val (Val.pick rfl) rfl ?_
  refine WL.val (Val.moveB rfl) rfl ?_
  refine WL.gF rfl rfl rfl rfl ?_
  refine WL.gF rfl rfl rfl rfl ?_
  refine WL.gF rfl rfl rfl rfl ?_
  refine WL.gF rfl rfl rfl rfl ?_
  refine WL.gF rfl rfl rfl rfl ?_
  refine WL.gF rfl rfl rfl rfl ?_
  refine WL.val (Val.pick rfl) rfl ?_
  refine WL.val (Val.assignB rfl) rfl ?_
  refine WL.nil ?_
  refine WX.thenC ?_
  refine WC.ret ?_
  rotate_left
  all_goals
    apply WX.doneP (ks := [])
    case hres => exact RunRes.r1 rfl (ResIs.tmpB rfl)
    case hI => first | exact Mem.le.refl _ | assumption
  all_goals refine ⟨rfl, rfl, ?_⟩
  all_goals unfold Atr.small
  all_goals first | exact EqP.t (by omega) | exact EqP.f (by omega)
theorem scale_ctr (x y : Int) (I : Mem) : Ctr Tryz.prog 101 [vi x, vi y] I [] (Still I fun v => v = .agg #[vi x, vi 0, vi 0, vi y, vi 0, vi 0]) := by
  refine Ctr.intro Tryz.func101 rfl rfl rfl fun E F => ?_
  refine WC.seq ?_
  refine WC.region ?_
  (refine WL.alloc rfl ?_; intro _)
  refine WL.nApp ?_
  refine WL.nil ?_
  refine WX.thenC ?_
  refine WC.seq ?_
  refine WC.region ?_
  refine WL.val (Val.moveI rfl) rfl ?_
  refine WL.val (Val.moveI rfl) rfl ?_
  refine WL.val (Val.build (cs := [vi x, vi 0, vi 0, vi y, vi 0, vi 0]) rfl) rfl ?_
  refine WL.stA 1 rfl rfl rfl rfl ?_
  refine WL.nil ?_
  refine WX.thenC ?_
  refine WC.ret ?_
  apply WX.doneP (ks := [])
  case hres => exact RunRes.r1 rfl (ResIs.cellL 1 rfl rfl rfl)
  case hI => first | exact Mem.le.refl _ | assumption
  exact ⟨rfl, rfl, rfl⟩
theorem one_ctr (I : Mem) : Ctr Tryz.prog 63 [] I [] (Still I fun v => v = .agg #[vi 65536, vi 0, vi 0, vi 65536, vi 0, vi 0]) := by
  refine Ctr.intro Tryz.func63 rfl rfl rfl fun E F => ?_
  refine WC.seq ?_
  refine WC.region ?_
  (refine WL.alloc rfl ?_; intro _)
  refine WL.nApp ?_
  refine WL.nil ?_
  refine WX.thenC ?_
  refine WC.seq ?_
  refine WC.region ?_
  refine WL.callS rfl rfl (scale_ctr 65536 65536 _) rfl ?_
  rintro _ rfl
  refine WL.stA 1 rfl rfl rfl rfl ?_
  refine WL.nil ?_
  refine WX.thenC ?_
  refine WC.ret ?_
  apply WX.doneP (ks := [])
  case hres => exact RunRes.r1 rfl (ResIs.cellL 1 rfl rfl rfl)
  case hI => first | exact Mem.le.refl _ | assumption
  exact ⟨rfl, rfl, rfl⟩
theorem none_ctr (I : Mem) : Ctr Tryz.prog 64 [] I [] (Still I fun v => v = .agg (plainAtr.sty.cs (.slice none 0 0) (.slice none 0 0) (.slice none 0 0)).toArray) := by
  refine Ctr.intro Tryz.func64 rfl rfl rfl fun E F => ?_
  refine WC.seq ?_
  refine WC.region ?_
  (refine WL.alloc rfl ?_; intro _)
  refine WL.nApp ?_
  refine WL.nil ?_
  refine WX.thenC ?_
  refine WC.seq ?_
  refine WC.region ?_
  refine WL.val (Val.build (cs := (plainAtr.sty.cs (.slice none 0 0) (.slice none 0 0) (.slice none 0 0))) rfl) rfl ?_
  refine WL.stA 1 rfl rfl rfl rfl ?_
  refine WL.nil ?_
  refine WX.thenC ?_
  refine WC.ret ?_
  apply WX.doneP (ks := [])
  case hres => exact RunRes.r1 rfl (ResIs.cellL 1 rfl rfl rfl)
  case hI => first | exact Mem.le.refl _ | assumption
  exact ⟨rfl, rfl, rfl⟩
theorem plain_ctr (I : Mem) : Ctr Tryz.prog 21 [] I [] (Still I fun v => v = .agg (plainAtr.cs (.slice none 0 0) (.slice none 0 0) (.slice none 0 0) (.slice none 0 0)).toArray) := by
  refine Ctr.intro Tryz.func21 rfl rfl rfl fun E F => ?_
  refine WC.seq ?_
  refine WC.region ?_
  (refine WL.alloc rfl ?_; intro _)
  refine WL.nApp ?_
  refine WL.nil ?_
  refine WX.thenC ?_
  refine WC.seq ?_
  refine WC.region ?_
  refine WL.callS rfl rfl (one_ctr _) rfl ?_
  rintro _ rfl
  skip
  refine WL.callS rfl rfl (none_ctr _) rfl ?_
  rintro _ rfl
  skip
  refine WL.val (Val.build (cs := (plainAtr.cs (.slice none 0 0) (.slice none 0 0) (.slice none 0 0) (.slice none 0 0))) rfl) rfl ?_
  refine WL.stA 1 rfl rfl rfl rfl ?_
  refine WL.nil ?_
  refine WX.thenC ?_
  refine WC.ret ?_
  apply WX.doneP (ks := [])
  case hres => exact RunRes.r1 rfl (ResIs.cellL 1 rfl rfl rfl)
  case hI => first | exact Mem.le.refl _ | assumption
  exact ⟨rfl, rfl, rfl⟩
theorem copied_ctr (a : Atr) (t u d q : Value) (I : Mem) (ha : a.at_ I t u d q) (hl : a.lim) :
    Ctr Tryz.prog 110 [.agg (a.cs t u d q).toArray] I [] (KeepR [] (AtrV a)) := by
  obtain ⟨l1, l2, l3, l4⟩ := hl
  refine Ctr.intro Tryz.func110 rfl rfl rfl fun E F => ?_
  refine WC.seq ?_
  refine WC.region ?_
  (refine WL.boxA rfl rfl ?_; intro _)
  refine WL.nApp ?_
  (refine WL.alloc rfl ?_; intro _)
  refine WL.nApp ?_
  refine WL.nil ?_
  refine WX.thenC ?_
  refine WC.seq ?_
  refine WC.region ?_
  refine WL.val (Val.fldAddr rfl) rfl ?_
  refine WL.val (Val.loadS rfl (Rd.own1 1 rfl rfl)) rfl ?_
  rename_i g1 g2
  refine WL.callP [] rfl rfl (cloneSg a.path q _ ha.path (by omega)) rfl ?_
  rintro _ I0 _ _ ⟨rfl, qa, qc, p, rfl, rfl, hp⟩
  refine WL.nApp ?_
  refine WL.freezeL 3 rfl hp fun I1 hI1 hq => ?_
  have ha1 : a.at_ I1 t u d (.slice qa a.path.length qc) := ⟨ha.mtx, ha.sty.mono hI1, hq⟩
  refine WL.val (Val.fldAddr rfl) rfl ?_
  refine WL.stS 1 rfl rfl rfl rfl ?_
  refine WL.nil ?_
  refine WX.thenC ?_
  refine WC.seq ?_
  refine WC.region ?_
  refine WL.val (Val.fldAddr rfl) rfl ?_
  refine WL.val (Val.fldAddr rfl) rfl ?_
  refine WL.val (Val.fldAddr rfl) rfl ?_
  refine WL.val (Val.loadS rfl (Rd.own1 1 rfl rfl)) rfl ?_
  refine WL.callP [] rfl rfl (cloneI a.sty.dash d _ ha1.sty.dash (by omega)) rfl ?_
  rintro _ I2 _ _ ⟨rfl, da, dc, p2, rfl, rfl, hp2⟩
  refine WL.nApp ?_
  refine WL.freezeL 3 rfl hp2 fun I3 hI3 hd => ?_
  have ha2 : a.at_ I3 t u (.slice da a.sty.dash.length dc) (.slice qa a.path.length qc) := by
    have h := ha1.mono hI3
    exact ⟨h.mtx, ⟨h.sty.fill, h.sty.pen, h.sty.rule, h.sty.half, h.sty.cap, hd, h.sty.phase, h.sty.opac, h.sty.mode⟩, h.path⟩
  refine WL.val (Val.fldAddr rfl) rfl ?_
  refine WL.val (Val.fldAddr rfl) rfl ?_
  refine WL.val (Val.fldAddr rfl) rfl ?_
  refine WL.stS 1 rfl rfl rfl rfl ?_
  refine WL.nil ?_
  refine WX.thenC ?_
  refine WC.seq ?_
  refine WC.seq ?_
  refine WC.region ?_
  refine WL.val (Val.fldAddr rfl) rfl ?_
  refine WL.val (Val.fldAddr rfl) rfl ?_
  refine WL.val (Val.fldAddr rfl) rfl ?_
  refine WL.val (Val.fldAddr rfl) rfl ?_
  (refine WL.buildSlice (by with_unfolding_all exact rfl) rfl (by with_unfolding_all exact rfl) rfl ?_; intro _)
  refine WL.nApp ?_
  refine WL.val (Val.len rfl) rfl ?_
  refine WL.val (Val.moveI rfl) rfl ?_
  refine WL.nil ?_
  refine WX.thenC ?_
  refine WC.block ?_
  rename_i g3
  refine WC.loop (fun n ρ' I' L' => ∃ (k : Nat) (t' u' : Value), n = 2 - k ∧ k ≤ 2 ∧ I3.le I' ∧ ρ' 1 = ptr g1 ∧ ρ' 2 = ptr g2 ∧ ρ' 21 = .slice (some ⟨g3, 0, none⟩) 2 2 ∧ ρ' 22 = vi 2 ∧ ρ' 23 = vi k ∧
      L' = [F, box g1 38 (a.cs t' u' (.slice da a.sty.dash.length dc) (.slice qa a.path.length qc)), box g2 38 [vi 0, vi 0, vi 0, vi 0, vi 0, vi 0, vi 0, .int .u8 0, .int .u8 0, .int .u8 0, .int .u8 0, vi 0, vi 0, vi 0, vi 0, .slice none 0 0, vi 0, .int .u8 0, .int .u8 0, .int .u8 0, .int .u8 0, vi 0, vi 0, vi 0, vi 0, .slice none 0 0, vi 0, vi 0, vi 0, .slice none 0 0, vi 0, vi 0, vi 0, .slice none 0 0], box g3 224 [.pointer (some ⟨g1, 6, none⟩), .pointer (some ⟨g1, 16, none⟩)]] ∧ a.at_ I' t' u' (.slice da a.sty.dash.length dc) (.slice qa a.path.length qc))
    2 ⟨0, t, u, rfl, by omega, Mem.le.refl _, rfl, rfl, rfl, rfl, rfl, rfl, ha2⟩ ?_
  rintro n ρ' I4 L' ⟨k, t', u', rfl, hk, hI4, r1, r2, r21, r22, r23, rfl, ha3⟩
  rw [← upd_self r23, ← upd_self r22, ← upd_self r21, ← upd_self r2, ← upd_self r1]
  clear r23 r22 r21 r2 r1
  have hcase : k = 0 ∨ k = 1 ∨ k = 2 := by omega
  rcases hcase with rfl | rfl | rfl
  · skip
    refine WC.seq ?_
    refine WC.region ?_
    refine WL.val (Val.lss rfl rfl (decide_eq_true (by omega))) rfl ?_
    refine WL.nil ?_
    refine WX.thenC ?_
    refine WC.seq ?_
    refine WC.condT rfl ?_
    refine WC.skip ?_
    refine WX.thenC ?_
    refine WC.seq ?_
    refine WC.block ?_
    refine WC.seq ?_
    refine WC.region ?_
    refine WL.val (Val.indexAddr rfl rfl (by omega) (by omega)) rfl ?_
    refine WL.val (Val.loadS rfl (Rd.own1 3 rfl rfl)) rfl ?_
    refine WL.val (Val.assignP rfl) rfl ?_
    refine WL.nil ?_
    refine WX.thenC ?_
    refine WC.region ?_
    refine WL.val (Val.moveP rfl) rfl ?_
    refine WL.val (Val.moveP rfl) rfl ?_
    refine WL.val (Val.nilCheckP rfl) rfl ?_
    refine WL.val (Val.fldAddr rfl) rfl ?_
    refine WL.val (Val.loadS rfl (Rd.own1 1 rfl rfl)) rfl ?_
    refine WL.callP [] rfl rfl (cloneStp a.sty.fill.stops t' _ ha3.sty.fill.stops (by omega)) rfl ?_
    rintro _ I5 _ _ ⟨rfl, ta, tc, p5, rfl, rfl, hp5⟩
    refine WL.nApp ?_
    refine WL.freezeL 4 rfl hp5 fun I6 hI6 ht => ?_
    have ha4 : a.at_ I6 (.slice ta a.sty.fill.stops.length tc) u' (.slice da a.sty.dash.length dc) (.slice qa a.path.length qc) := by
      have h := ha3.mono hI6
      exact ⟨h.mtx, ⟨⟨h.sty.fill.kind, h.sty.fill.frm, h.sty.fill.to, ht⟩, h.sty.pen, h.sty.rule, h.sty.half, h.sty.cap, h.sty.dash, h.sty.phase, h.sty.opac, h.sty.mode⟩, h.path⟩
    refine WL.val (Val.nilCheckP rfl) rfl ?_
    refine WL.val (Val.fldAddr rfl) rfl ?_
    refine WL.stS 1 rfl rfl rfl rfl ?_
    refine WL.nil ?_
    refine WX.inNormal ?_
    refine WX.thenC ?_
    refine WC.region ?_
    refine WL.val (Val.add rfl rfl (wrap_i64 (by omega) (by omega))) rfl ?_
    refine WL.val (Val.moveI rfl) rfl ?_
    refine WL.nil ?_
    exact WX.thenK (WK.round 1 (by omega) ⟨1, _, _, rfl, by omega, hI4.trans hI6, rfl, rfl, rfl, rfl, rfl, rfl, ha4⟩)
  · skip
    refine WC.seq ?_
    refine WC.region ?_
    refine WL.val (Val.lss rfl rfl (decide_eq_true (by omega))) rfl ?_
    refine WL.nil ?_
    refine WX.thenC ?_
    refine WC.seq ?_
    refine WC.condT rfl ?_
    refine WC.skip ?_
    refine WX.thenC ?_
    refine WC.seq ?_
    refine WC.block ?_
    refine WC.seq ?_
    refine WC.region ?_
    refine WL.val (Val.indexAddr rfl rfl (by omega) (by omega)) rfl ?_
    refine WL.val (Val.loadS rfl (Rd.own1 3 rfl rfl)) rfl ?_
    refine WL.val (Val.assignP rfl) rfl ?_
    refine WL.nil ?_
    refine WX.thenC ?_
    refine WC.region ?_
    refine WL.val (Val.moveP rfl) rfl ?_
    refine WL.val (Val.moveP rfl) rfl ?_
    refine WL.val (Val.nilCheckP rfl) rfl ?_
    refine WL.val (Val.fldAddr rfl) rfl ?_
    refine WL.val (Val.loadS rfl (Rd.own1 1 rfl rfl)) rfl ?_
    refine WL.callP [] rfl rfl (cloneStp a.sty.pen.stops u' _ ha3.sty.pen.stops (by omega)) rfl ?_
    rintro _ I5 _ _ ⟨rfl, ta, tc, p5, rfl, rfl, hp5⟩
    refine WL.nApp ?_
    refine WL.freezeL 4 rfl hp5 fun I6 hI6 ht => ?_
    have ha4 : a.at_ I6 t' (.slice ta a.sty.pen.stops.length tc) (.slice da a.sty.dash.length dc) (.slice qa a.path.length qc) := by
      have h := ha3.mono hI6
      exact ⟨h.mtx, ⟨h.sty.fill, ⟨h.sty.pen.kind, h.sty.pen.frm, h.sty.pen.to, ht⟩, h.sty.rule, h.sty.half, h.sty.cap, h.sty.dash, h.sty.phase, h.sty.opac, h.sty.mode⟩, h.path⟩
    refine WL.val (Val.nilCheckP rfl) rfl ?_
    refine WL.val (Val.fldAddr rfl) rfl ?_
    refine WL.stS 1 rfl rfl rfl rfl ?_
    refine WL.nil ?_
    refine WX.inNormal ?_
    refine WX.thenC ?_
    refine WC.region ?_
    refine WL.val (Val.add rfl rfl (wrap_i64 (by omega) (by omega))) rfl ?_
    refine WL.val (Val.moveI rfl) rfl ?_
    refine WL.nil ?_
    exact WX.thenK (WK.round 0 (by omega) ⟨2, _, _, rfl, by omega, hI4.trans hI6, rfl, rfl, rfl, rfl, rfl, rfl, ha4⟩)
  · obtain ⟨ta, tc, ua, uc, _, _, _, _, rfl, rfl, _, _⟩ := ha3.sl
    refine WC.seq ?_
    refine WC.region ?_
    refine WL.val (Val.lss rfl rfl (decide_eq_false (by omega))) rfl ?_
    refine WL.nil ?_
    refine WX.thenC ?_
    refine WC.seq ?_
    refine WC.condF rfl ?_
    refine WC.exit ?_
    refine WX.thenExit ?_
    refine WX.thenExit ?_
    refine WX.inHit ?_
    refine WX.thenC ?_
    refine WC.seq ?_
    refine WC.region ?_
    refine WL.val (Val.ldO 1 rfl rfl rfl) rfl ?_
    refine WL.stA 2 rfl rfl rfl rfl ?_
    refine WL.nil ?_
    refine WX.thenC ?_
    refine WC.ret ?_
    have hJ := hI1.trans (hI3.trans hI4)
    apply WX.doneP (ks := [])
    case hres => exact RunRes.r1 rfl (ResIs.cellL 2 rfl rfl rfl)
    case hI => first | exact Mem.le.refl _ | assumption
    exact ⟨rfl, _, _, _, _, rfl, ha3⟩
end Go.Proofs.YtggcpoleklcmkaaGreatDoor

/-
  Drawings, the walks: entries that are one node's.
-/

namespace Go.Ls
open Go.Sl
/-- The rest of a list; it may be that there is no room behind it. -/
theorem LsAt.drop2 {α : Type} {R : Rep α} {sz : Nat} [hL : RepLen R sz] {I : Mem} {l : List α} {b off n cap : Nat} (h : LsAt R I l (.slice (some ⟨b, off, none⟩) n cap)) (k : Nat) (hk : k ≤ l.length) : LsAt R I (l.drop k) (.slice (some ⟨b, if cap = k then off else off + k * sz, none⟩) (l.length - k) (cap - k)) := by
  by_cases hc : cap = k
  · have h1 := h.cap
    rw [if_pos hc]
    have h2 : l.drop k = [] := List.drop_eq_nil_of_le (by omega)
    rw [h2]
    exact ⟨[], ⟨_, _, by rw [show l.length - k = 0 by omega]; rfl, ⟨by simp, by unfold maxLen; omega⟩, .inl ⟨rfl, rfl⟩⟩, trivial⟩
  · rw [if_neg hc]
    exact h.drop k hk
end Go.Ls
namespace Go.Proofs.YtggcpoleklcmkaaGreatDoor
open Go.Sl Go.Ls Go.Tr Go.Dc
set_option maxRecDepth 100000
set_option maxHeartbeats 4000000
set_option linter.unusedVariables false
set_option linter.unusedSimpArgs false
attribute [local irreducible] WC WL WX WK WA WAK Val Ctr RunRes ResIs Rd At sl box pt Exit.then Exit.inBlock bodyPost Code.wp wpList
theorem span_ctr (l : List Ent) (v : Value) (I : Mem) (hv : LsAt Ent.rep I l v) (hl : l.length ≤ 1000000) : Ctr Tryz.prog 83 [v] I [] (Still I fun r => r = vi (span l)) := by
  obtain ⟨a1, c1, rfl⟩ := hv.sl
  refine Ctr.intro Tryz.func83 rfl rfl rfl fun E F => ?_
  refine WC.seq ?_
  refine WC.region ?_
  refine WL.val (Val.assignI rfl) rfl ?_
  refine WL.nil ?_
  refine WX.thenC ?_
  refine WC.seq ?_
  refine WC.region ?_
  refine WL.val (Val.assignI rfl) rfl ?_
  refine WL.nil ?_
  refine WX.thenC ?_
  refine WC.seq ?_
  refine WC.seq ?_
  refine WC.region ?_
  refine WL.val (Val.moveS rfl) rfl ?_
  refine WL.val (Val.len rfl) rfl ?_
  refine WL.val (Val.moveI rfl) rfl ?_
  refine WL.nil ?_
  refine WX.thenC ?_
  refine WC.block ?_
  refine WC.loop (fun n ρ' I' L' => ∃ (k : Nat) (o : Int), n = l.length - k ∧ k ≤ l.length ∧ I' = I ∧ ρ' 0 = .slice a1 l.length c1 ∧ ρ' 3 = vi o ∧ ρ' 6 = .slice a1 l.length c1 ∧ ρ' 7 = vi l.length ∧ ρ' 8 = vi k ∧ L' = [F] ∧ 1 ≤ o ∧ o ≤ 1 + ((k * l.length : Nat) : Int) ∧ span l = spanGo l.length o k (l.drop k))
    l.length ⟨0, 1, rfl, by omega, rfl, rfl, rfl, rfl, rfl, rfl, rfl, by omega, by omega, rfl⟩ ?_
  rintro n ρ' I0 L' ⟨k, o, rfl, hk, rfl, r0, r3, r6, r7, r8, rfl, o1, o2, hgo⟩
  rw [← upd_self r8, ← upd_self r7, ← upd_self r6, ← upd_self r3, ← upd_self r0]
  clear r8 r7 r6 r3 r0
  have hmul : k * l.length ≤ 1000000 * 1000000 := Nat.mul_le_mul (by omega) hl
  have hmul2 : (k + 1) * l.length = k * l.length + l.length := Nat.succ_mul _ _
  rw [hgo]
  by_cases hkn : k < l.length
  case neg =>
    have : k = l.length := by omega
    subst this
    rw [List.drop_length]
    refine WC.seq ?_
    refine WC.region ?_
    refine WL.val (Val.lss rfl rfl (decide_eq_false (by omega))) rfl ?_
    refine WL.nil ?_
    refine WX.thenC ?_
    refine WC.seq ?_
    refine WC.condF rfl ?_
    refine WC.exit ?_
    refine WX.thenExit ?_
    refine WX.thenExit ?_
    refine WX.inHit ?_
    refine WX.thenC ?_
    refine WC.seq ?_
    refine WC.region ?_
    refine WL.val (Val.assignI rfl) rfl ?_
    refine WL.nil ?_
    refine WX.thenC ?_
    refine WC.ret ?_
    apply WX.doneP (ks := [])
    case hres => exact RunRes.r1 rfl (ResIs.tmpI rfl)
    case hI => first | exact Mem.le.refl _ | assumption
    exact ⟨rfl, rfl, rfl⟩
  obtain ⟨b, off, cap', cs, he, ⟨t1, t2, t3, t4, rfl, hi⟩, hA⟩ := hv.get k hkn
  cases he
  obtain ⟨b1, d1, b2, d2, b3, d3, b4, d4, rfl, rfl, rfl, rfl⟩ := hi.sl
  rw [List.drop_eq_getElem_cons hkn, spanGo]
  rw [List.drop_eq_getElem_cons hkn, spanGo] at hgo
  have hik := hi.kids
  generalize l[k] = x at *
  by_cases h1 : x.kids < 0
  · rw [if_pos (.inl h1)]
    refine WC.seq ?_
    refine WC.region ?_
    refine WL.val (Val.lss rfl rfl (decide_eq_true (by omega))) rfl ?_
    refine WL.nil ?_
    refine WX.thenC ?_
    refine WC.seq ?_
    refine WC.condT rfl ?_
    refine WC.skip ?_
    refine WX.thenC ?_
    refine WC.seq ?_
    refine WC.block ?_
    refine WC.seq ?_
    refine WC.region ?_
    refine WL.val (Val.moveI rfl) rfl ?_
    refine WL.val (Val.indexAddr rfl rfl (by omega) (by omega)) rfl ?_
    refine WL.val (Val.loadI rfl (by assumption) rfl) rfl ?_
    (refine WL.alloc rfl ?_; intro _)
    refine WL.nApp ?_
    refine WL.val (Val.assignI rfl) rfl ?_
    refine WL.stA 1 rfl rfl rfl rfl ?_
    refine WL.nil ?_
    refine WX.thenC ?_
    refine WC.seq ?_
    refine WC.seq ?_
    refine WC.region ?_
    refine WL.val (Val.fldAddr rfl) rfl ?_
    refine WL.val (Val.loadS rfl (Rd.own1 1 rfl rfl)) rfl ?_
    refine WL.val (Val.lss rfl rfl (decide_eq_true (by omega))) rfl ?_
    refine WL.val (Val.moveB rfl) rfl ?_
    refine WL.gF rfl rfl rfl rfl ?_
    refine WL.gF rfl rfl rfl rfl ?_
    refine WL.gF rfl rfl rfl rfl ?_
    refine WL.gF rfl rfl rfl rfl ?_
    refine WL.gF rfl rfl rfl rfl ?_
    refine WL.val (Val.pick rfl) rfl ?_
    refine WL.nil ?_
    refine WX.thenC ?_
    refine WC.condT rfl ?_
    refine WC.seq ?_
    refine WC.region ?_
    refine WL.val (Val.assignI rfl) rfl ?_
    refine WL.nil ?_
    refine WX.thenC ?_
    refine WC.ret ?_
    refine WX.thenRet ?_
    refine WX.inRet ?_
    refine WX.thenRet ?_
    refine WX.thenRet ?_
    refine WX.inRet ?_
    refine WX.thenRet ?_
    apply WX.doneP (ks := [])
    case hres => exact RunRes.r1 rfl (ResIs.tmpI rfl)
    case hI => first | exact Mem.le.refl _ | assumption
    exact ⟨rfl, rfl, rfl⟩
  by_cases h2 : (l.length : Int) < x.kids
  · rw [if_pos (.inr h2)]
    refine WC.seq ?_
    refine WC.region ?_
    refine WL.val (Val.lss rfl rfl (decide_eq_true (by omega))) rfl ?_
    refine WL.nil ?_
    refine WX.thenC ?_
    refine WC.seq ?_
    refine WC.condT rfl ?_
    refine WC.skip ?_
    refine WX.thenC ?_
    refine WC.seq ?_
    refine WC.block ?_
    refine WC.seq ?_
    refine WC.region ?_
    refine WL.val (Val.moveI rfl) rfl ?_
    refine WL.val (Val.indexAddr rfl rfl (by omega) (by omega)) rfl ?_
    refine WL.val (Val.loadI rfl (by assumption) rfl) rfl ?_
    (refine WL.alloc rfl ?_; intro _)
    refine WL.nApp ?_
    refine WL.val (Val.assignI rfl) rfl ?_
    refine WL.stA 1 rfl rfl rfl rfl ?_
    refine WL.nil ?_
    refine WX.thenC ?_
    refine WC.seq ?_
    refine WC.seq ?_
    refine WC.region ?_
    refine WL.val (Val.fldAddr rfl) rfl ?_
    refine WL.val (Val.loadS rfl (Rd.own1 1 rfl rfl)) rfl ?_
    refine WL.val (Val.lss rfl rfl (decide_eq_false (by omega))) rfl ?_
    refine WL.val (Val.moveB rfl) rfl ?_
    refine WL.gT rfl rfl ?_
    refine WL.val (Val.fldAddr rfl) rfl ?_
    refine WL.gT rfl rfl ?_
    refine WL.val (Val.loadS rfl (Rd.own1 1 rfl rfl)) rfl ?_
    refine WL.gT rfl rfl ?_
    refine WL.val (Val.moveS rfl) rfl ?_
    refine WL.gT rfl rfl ?_
    refine WL.val (Val.len rfl) rfl ?_
    refine WL.gT rfl rfl ?_
    refine WL.val (Val.gtr rfl rfl (decide_eq_true (by omega))) rfl ?_
    refine WL.val (Val.pick rfl) rfl ?_
    refine WL.nil ?_
    refine WX.thenC ?_
    refine WC.condT rfl ?_
    refine WC.seq ?_
    refine WC.region ?_
    refine WL.val (Val.assignI rfl) rfl ?_
    refine WL.nil ?_
    refine WX.thenC ?_
    refine WC.ret ?_
    refine WX.thenRet ?_
    refine WX.inRet ?_
    refine WX.thenRet ?_
    refine WX.thenRet ?_
    refine WX.inRet ?_
    refine WX.thenRet ?_
    apply WX.doneP (ks := [])
    case hres => exact RunRes.r1 rfl (ResIs.tmpI rfl)
    case hI => first | exact Mem.le.refl _ | assumption
    exact ⟨rfl, rfl, rfl⟩
  rw [if_neg (by omega)] at hgo ⊢
  by_cases h3 : o + x.kids - 1 = 0
  · rw [if_pos h3]
    refine WC.seq ?_
    refine WC.region ?_
    refine WL.val (Val.lss rfl rfl (decide_eq_true (by omega))) rfl ?_
    refine WL.nil ?_
    refine WX.thenC ?_
    refine WC.seq ?_
    refine WC.condT rfl ?_
    refine WC.skip ?_
    refine WX.thenC ?_
    refine WC.seq ?_
    refine WC.block ?_
    refine WC.seq ?_
    refine WC.region ?_
    refine WL.val (Val.moveI rfl) rfl ?_
    refine WL.val (Val.indexAddr rfl rfl (by omega) (by omega)) rfl ?_
    refine WL.val (Val.loadI rfl (by assumption) rfl) rfl ?_
    (refine WL.alloc rfl ?_; intro _)
    refine WL.nApp ?_
    refine WL.val (Val.assignI rfl) rfl ?_
    refine WL.stA 1 rfl rfl rfl rfl ?_
    refine WL.nil ?_
    refine WX.thenC ?_
    refine WC.seq ?_
    refine WC.seq ?_
    refine WC.region ?_
    refine WL.val (Val.fldAddr rfl) rfl ?_
    refine WL.val (Val.loadS rfl (Rd.own1 1 rfl rfl)) rfl ?_
    refine WL.val (Val.lss rfl rfl (decide_eq_false (by omega))) rfl ?_
    refine WL.val (Val.moveB rfl) rfl ?_
    refine WL.gT rfl rfl ?_
    refine WL.val (Val.fldAddr rfl) rfl ?_
    refine WL.gT rfl rfl ?_
    refine WL.val (Val.loadS rfl (Rd.own1 1 rfl rfl)) rfl ?_
    refine WL.gT rfl rfl ?_
    refine WL.val (Val.moveS rfl) rfl ?_
    refine WL.gT rfl rfl ?_
    refine WL.val (Val.len rfl) rfl ?_
    refine WL.gT rfl rfl ?_
    refine WL.val (Val.gtr rfl rfl (decide_eq_false (by omega))) rfl ?_
    refine WL.val (Val.pick rfl) rfl ?_
    refine WL.nil ?_
    refine WX.thenC ?_
    refine WC.condF rfl ?_
    refine WC.skip ?_
    refine WX.thenC ?_
    refine WC.seq ?_
    refine WC.region ?_
    refine WL.val (Val.moveI rfl) rfl ?_
    refine WL.val (Val.fldAddr rfl) rfl ?_
    refine WL.val (Val.loadS rfl (Rd.own1 1 rfl rfl)) rfl ?_
    refine WL.val (Val.sub rfl rfl (wrap_i64 (by omega) (by omega))) rfl ?_
    refine WL.val (Val.add rfl rfl (wrap_i64 (by omega) (by omega))) rfl ?_
    refine WL.val (Val.assignI rfl) rfl ?_
    refine WL.nil ?_
    refine WX.thenC ?_
    refine WC.seq ?_
    refine WC.region ?_
    refine WL.val (Val.moveI rfl) rfl ?_
    refine WL.val (Val.eql rfl rfl (beq_iff_eq.2 (by omega))) rfl ?_
    refine WL.nil ?_
    refine WX.thenC ?_
    refine WC.condT rfl ?_
    refine WC.seq ?_
    refine WC.region ?_
    refine WL.val (Val.moveI rfl) rfl ?_
    refine WL.val (Val.add rfl rfl (wrap_i64 (by omega) (by omega))) rfl ?_
    refine WL.val (Val.assignI rfl) rfl ?_
    refine WL.nil ?_
    refine WX.thenC ?_
    refine WC.ret ?_
    refine WX.inRet ?_
    refine WX.thenRet ?_
    refine WX.thenRet ?_
    refine WX.inRet ?_
    refine WX.thenRet ?_
    apply WX.doneP (ks := [])
    case hres => exact RunRes.r1 rfl (ResIs.tmpI rfl)
    case hI => first | exact Mem.le.refl _ | assumption
    exact ⟨rfl, rfl, rfl⟩
  · rw [if_neg h3] at hgo ⊢
    refine WC.seq ?_
    refine WC.region ?_
    refine WL.val (Val.lss rfl rfl (decide_eq_true (by omega))) rfl ?_
    refine WL.nil ?_
    refine WX.thenC ?_
    refine WC.seq ?_
    refine WC.condT rfl ?_
    refine WC.skip ?_
    refine WX.thenC ?_
    refine WC.seq ?_
    refine WC.block ?_
    refine WC.seq ?_
    refine WC.region ?_
    refine WL.val (Val.moveI rfl) rfl ?_
    refine WL.val (Val.indexAddr rfl rfl (by omega) (by omega)) rfl ?_
    refine WL.val (Val.loadI rfl (by assumption) rfl) rfl ?_
    (refine WL.alloc rfl ?_; intro _)
    refine WL.nApp ?_
    refine WL.val (Val.assignI rfl) rfl ?_
    refine WL.stA 1 rfl rfl rfl rfl ?_
    refine WL.nil ?_
    refine WX.thenC ?_
    refine WC.seq ?_
    refine WC.seq ?_
    refine WC.region ?_
    refine WL.val (Val.fldAddr rfl) rfl ?_
    refine WL.val (Val.loadS rfl (Rd.own1 1 rfl rfl)) rfl ?_
    refine WL.val (Val.lss rfl rfl (decide_eq_false (by omega))) rfl ?_
    refine WL.val (Val.moveB rfl) rfl ?_
    refine WL.gT rfl rfl ?_
    refine WL.val (Val.fldAddr rfl) rfl ?_
    refine WL.gT rfl rfl ?_
    refine WL.val (Val.loadS rfl (Rd.own1 1 rfl rfl)) rfl ?_
    refine WL.gT rfl rfl ?_
    refine WL.val (Val.moveS rfl) rfl ?_
    refine WL.gT rfl rfl ?_
    refine WL.val (Val.len rfl) rfl ?_
    refine WL.gT rfl rfl ?_
    refine WL.val (Val.gtr rfl rfl (decide_eq_false (by omega))) rfl ?_
    refine WL.val (Val.pick rfl) rfl ?_
    refine WL.nil ?_
    refine WX.thenC ?_
    refine WC.condF rfl ?_
    refine WC.skip ?_
    refine WX.thenC ?_
    refine WC.seq ?_
    refine WC.region ?_
    refine WL.val (Val.moveI rfl) rfl ?_
    refine WL.val (Val.fldAddr rfl) rfl ?_
    refine WL.val (Val.loadS rfl (Rd.own1 1 rfl rfl)) rfl ?_
    refine WL.val (Val.sub rfl rfl (wrap_i64 (by omega) (by omega))) rfl ?_
    refine WL.val (Val.add rfl rfl (wrap_i64 (by omega) (by omega))) rfl ?_
    refine WL.val (Val.assignI rfl) rfl ?_
    refine WL.nil ?_
    refine WX.thenC ?_
    refine WC.seq ?_
    refine WC.region ?_
    refine WL.val (Val.moveI rfl) rfl ?_
    refine WL.val (Val.eql rfl rfl (beq_eq_false_iff_ne.2 (by omega))) rfl ?_
    refine WL.nil ?_
    refine WX.thenC ?_
    refine WC.condF rfl ?_
    refine WC.skip ?_
    refine WX.inNormal ?_
    refine WX.thenC ?_
    refine WC.region ?_
    refine WL.val (Val.add rfl rfl (wrap_i64 (by omega) (by omega))) rfl ?_
    refine WL.val (Val.moveI rfl) rfl ?_
    refine WL.nil ?_
    refine WX.conv (fun w h => h.sub [0] rfl) ?_
    rw [← hgo]
    refine WX.thenK (WK.round (l.length - (k + 1)) (by omega) ⟨k + 1, o + (x.kids - 1), rfl, by omega, rfl, rfl, rfl, rfl, rfl, rfl, rfl, by omega, by omega, ?_⟩)
    rw [hgo, show o + (x.kids - 1) = o + x.kids - 1 by omega]
    rfl
theorem whole_ctr (l : List Ent) (v : Value) (I : Mem) (hv : LsAt Ent.rep I l v) (hl : l.length ≤ 1000000) : Ctr Tryz.prog 38 [v] I [] (Still I (EqP (Whole l))) := by
  have hv0 := hv
  obtain ⟨a1, c1, rfl⟩ := hv.sl
  refine Ctr.intro Tryz.func38 rfl rfl rfl fun E F => ?_
  by_cases h0 : 0 < l.length
  · skip
    refine WC.seq ?_
    refine WC.region ?_
    refine WL.val (Val.assignB rfl) rfl ?_
    refine WL.nil ?_
    refine WX.thenC ?_
    refine WC.seq ?_
    refine WC.region ?_
    refine WL.val (Val.moveS rfl) rfl ?_
    refine WL.val (Val.len rfl) rfl ?_
    refine WL.val (Val.gtr rfl rfl (decide_eq_true (by omega))) rfl ?_
    refine WL.val (Val.moveB rfl) rfl ?_
    refine WL.gT rfl rfl ?_
    refine WL.val (Val.moveS rfl) rfl ?_
    refine WL.gT rfl rfl ?_
    refine WL.callS rfl rfl (span_ctr l _ _ hv0 hl) rfl ?_
    rintro _ rfl
    by_cases h1 : span l = l.length
    · skip
      refine WL.gT rfl rfl ?_
      refine WL.val (Val.moveS rfl) rfl ?_
      refine WL.gT rfl rfl ?_
      refine WL.val (Val.len rfl) rfl ?_
      refine WL.gT rfl rfl ?_
      refine WL.val (Val.eql rfl rfl (beq_iff_eq.2 (by omega))) rfl ?_
      refine WL.val (Val.pick rfl) rfl ?_
      refine WL.val (Val.assignB rfl) rfl ?_
      refine WL.nil ?_
      refine WX.thenC ?_
      refine WC.ret ?_
      apply WX.doneP (ks := [])
      case hres => exact RunRes.r1 rfl (ResIs.tmpB rfl)
      case hI => first | exact Mem.le.refl _ | assumption
      exact ⟨rfl, rfl, EqP.t ⟨h0, h1⟩⟩
    · skip
      refine WL.gT rfl rfl ?_
      refine WL.val (Val.moveS rfl) rfl ?_
      refine WL.gT rfl rfl ?_
      refine WL.val (Val.len rfl) rfl ?_
      refine WL.gT rfl rfl ?_
      refine WL.val (Val.eql rfl rfl (beq_eq_false_iff_ne.2 (by omega))) rfl ?_
      refine WL.val (Val.pick rfl) rfl ?_
      refine WL.val (Val.assignB rfl) rfl ?_
      refine WL.nil ?_
      refine WX.thenC ?_
      refine WC.ret ?_
      apply WX.doneP (ks := [])
      case hres => exact RunRes.r1 rfl (ResIs.tmpB rfl)
      case hI => first | exact Mem.le.refl _ | assumption
      exact ⟨rfl, rfl, EqP.f fun e => h1 e.2⟩
  · skip
    refine WC.seq ?_
    refine WC.region ?_
    refine WL.val (Val.assignB rfl) rfl ?_
    refine WL.nil ?_
    refine WX.thenC ?_
    refine WC.seq ?_
    refine WC.region ?_
    refine WL.val (Val.moveS rfl) rfl ?_
    refine WL.val (Val.len rfl) rfl ?_
    refine WL.val (Val.gtr rfl rfl (decide_eq_false (by omega))) rfl ?_
    refine WL.val (Val.moveB rfl) rfl ?_
    refine WL.gF rfl rfl rfl rfl ?_
    refine WL.gF rfl rfl rfl rfl ?_
    refine WL.gF rfl rfl rfl rfl ?_
    refine WL.gF rfl rfl rfl rfl ?_
    refine WL.gF rfl rfl rfl rfl ?_
    refine WL.val (Val.pick rfl) rfl ?_
    refine WL.val (Val.assignB rfl) rfl ?_
    refine WL.nil ?_
    refine WX.thenC ?_
    refine WC.ret ?_
    apply WX.doneP (ks := [])
    case hres => exact RunRes.r1 rfl (ResIs.tmpB rfl)
    case hI => first | exact Mem.le.refl _ | assumption
    exact ⟨rfl, rfl, EqP.f fun e => h0 e.1⟩
theorem Tks_step {k m : Nat} {r0 rest r : List Ent} {ns ms : List Nd} (hk : k < m) (h1 : Tks k r0 = some (ns, rest)) (h2 : Tks (m - k) rest = some (ms, r)) : ∃ n1 r1 ms', Tk rest = some (n1, r1) ∧ Tks (m - (k + 1)) r1 = some (ms', r) ∧ ms = n1 :: ms' ∧ Tks (k + 1) r0 = some (ns ++ [n1], r1) := by
  rw [show m - k = (m - (k + 1)) + 1 by omega, Tks_succ] at h2
  cases ht : Tk rest with
  | none => rw [ht] at h2; cases h2
  | some q =>
    obtain ⟨n1, r1⟩ := q
    rw [ht] at h2
    simp only at h2
    cases ht2 : Tks (m - (k + 1)) r1 with
    | none => rw [ht2] at h2; cases h2
    | some q =>
      obtain ⟨ms', r'⟩ := q
      rw [ht2] at h2
      cases h2
      refine ⟨n1, r1, ms', rfl, ht2, rfl, ?_⟩
      have h3 := Tks_add k 1 r0
      rw [h1] at h3
      simp only at h3
      rw [h3, Tks_succ, ht]
      simp only [Tks_zero]
/-- A node, and the entries behind it. -/
def NodeR (n : Nd) (r : List Ent) : Value → Mem → List HP → Prop := fun w I' L' => L' = [] ∧ ∃ kv rv, w = .tuple #[.agg #[vi n.id, .bool n.grp, kv], rv] ∧ LsAt Nd.Rp I' n.kids kv ∧ I64 n.id ∧ LsAt Ent.rep I' r rv
theorem node_ctr (N : Nat) : ∀ (l : List Ent), l.length ≤ N → ∀ (n : Nd) (r : List Ent) (v : Value) (I : Mem), LsAt Ent.rep I l v → l.length ≤ 1000000 → Tk l = some (n, r) → Ctr Tryz.prog 108 [v] I [] (NodeR n r) := by
  induction N with
  | zero =>
    intro l h n r v I _ _ ht
    have := Tk_le ht
    omega
  | succ N ih =>
    intro l hlN n r v I hv hl ht
    cases l with
    | nil => rw [Tk_nil] at ht; cases ht
    | cons x r0 =>
      rw [Tk_cons] at ht
      split at ht
      · cases ht
      rename_i hk
      split at ht
      · cases ht
      rename_i ks rest hks
      cases ht
      obtain ⟨m, hm⟩ : ∃ m : Nat, x.kids = m := ⟨x.kids.toNat, by omega⟩
      rw [hm, Int.toNat_natCast] at hks
      rw [hm] at hk
      simp only [List.length_cons] at hl hlN
      obtain ⟨b, off, cap', cs, he, ⟨t1, t2, t3, t4, rfl, hi⟩, hA⟩ := hv.get 0 (by simp)
      subst he
      have hid := hi.id
      simp only [List.getElem_cons_zero, List.length_cons] at hA hv hid hi
      rw [List.length_cons]
      have hA0 : At I b (off + (0 : Int).toNat * 37) [vi x.id] := hA.zero rfl
      have hA1 : At I b (off + (0 : Int).toNat * 37 + 1) [.bool x.grp] := hA.one (k := 1) rfl
      have hA2 : At I b (off + (0 : Int).toNat * 37 + 2) [vi x.kids] := hA.one (k := 2) rfl
      refine Ctr.intro Tryz.func108 rfl rfl rfl fun E F => ?_
      refine WC.seq ?_
      refine WC.region ?_
      (refine WL.alloc rfl ?_; intro _)
      refine WL.nApp ?_
      refine WL.val (Val.assignS rfl) rfl ?_
      refine WL.nil ?_
      refine WX.thenC ?_
      refine WC.seq ?_
      refine WC.drawK 999 I [] rfl (by kernel_rfl) rfl rfl ?_
      refine WA.take 0 rfl (by kernel_rfl) rfl (fun w h => (h.sub [] rfl)) (Val.moveS rfl) rfl ?_
      refine WA.take 1 rfl (by kernel_rfl) rfl (fun w h => (h.sub [] rfl)) (Val.indexAddr rfl rfl (by omega) (by omega)) rfl ?_
      refine WA.take 2 rfl (by kernel_rfl) rfl (fun w h => (h.sub [] rfl)) (Val.fldAddr rfl) rfl ?_
      first | refine WA.take 3 rfl (by kernel_rfl) rfl (fun w h => (h.sub [] rfl)) (Val.loadS rfl (Rd.imm hA0)) rfl ?_ | refine WA.takeGT 3 rfl (by kernel_rfl) rfl (fun w h => (h.sub [] rfl)) rfl rfl (Val.loadS rfl (Rd.imm hA0)) rfl ?_
      refine WA.take 4 rfl (by kernel_rfl) rfl (fun w h => (h.sub [] rfl)) (Val.moveS rfl) rfl ?_
      refine WA.take 5 rfl (by kernel_rfl) rfl (fun w h => (h.sub [] rfl)) (Val.indexAddr rfl rfl (by omega) (by omega)) rfl ?_
      refine WA.take 6 rfl (by kernel_rfl) rfl (fun w h => (h.sub [] rfl)) (Val.fldAddr rfl) rfl ?_
      first | refine WA.take 7 rfl (by kernel_rfl) rfl (fun w h => (h.sub [] rfl)) (Val.loadS rfl (Rd.imm hA1)) rfl ?_ | refine WA.takeGT 7 rfl (by kernel_rfl) rfl (fun w h => (h.sub [] rfl)) rfl rfl (Val.loadS rfl (Rd.imm hA1)) rfl ?_
      first | refine WA.take 8 rfl (by kernel_rfl) rfl (fun w h => (h.sub [] rfl)) (Val.build (cs := [vi x.id, .bool x.grp, .slice none 0 0]) rfl) rfl ?_ | refine WA.takeGT 8 rfl (by kernel_rfl) rfl (fun w h => (h.sub [] rfl)) rfl rfl (Val.build (cs := [vi x.id, .bool x.grp, .slice none 0 0]) rfl) rfl ?_
      refine WA.eff1 (i := 9) (by kernel_rfl) rfl rfl ?_
      (refine WL.alloc rfl ?_; intro _)
      refine WL.nApp ?_
      refine WL.nil ?_
      refine WK.anyStep (fun w h => (h.sub [] rfl)) ?_
      refine WA.eff1 (i := 10) (by kernel_rfl) rfl rfl ?_
      refine WL.stA 2 rfl rfl rfl rfl ?_
      refine WL.nil ?_
      refine WK.anyStep (fun w h => (h.sub [] rfl)) ?_
      refine WA.done (by kernel_rfl) ?_
      refine WX.thenC ?_
      refine WC.seq ?_
      refine WC.region ?_
      refine WL.val (Val.moveS rfl) rfl ?_
      rename_i g1 g2
      have hv1 := hv.drop2 1 (by simp)
      have hcp := hv.cap
      simp only [List.drop_succ_cons, List.drop_zero, List.length_cons] at hv1 hcp
      refine WL.val (Val.sliceFrom2 (m := 1) rfl rfl (by omega) (by omega)) rfl ?_
      generalize Value.slice (some ⟨b, if cap' = 1 then off else off + 1 * 37, none⟩) (r0.length + 1 - 1) (cap' - 1) = rv0 at hv1 ⊢
      rw [hm] at hA2
      refine WL.val Val.assign rfl ?_
      refine WL.nil ?_
      refine WX.thenC ?_
      refine WC.seq ?_
      refine WC.seq ?_
      refine WC.region ?_
      refine WL.val (Val.moveS rfl) rfl ?_
      refine WL.val (Val.indexAddr rfl rfl (by omega) (by omega)) rfl ?_
      refine WL.val (Val.fldAddr rfl) rfl ?_
      refine WL.val (Val.loadS rfl (Rd.imm (by assumption))) rfl ?_
      refine WL.val (Val.moveI rfl) rfl ?_
      refine WL.nil ?_
      refine WX.thenC ?_
      refine WC.block ?_
      refine WC.slNil 72 3 ?_
      refine WC.nApp ?_
      refine WC.loop (fun n ρ' I' L' => ∃ (k : Nat) (ns ms : List Nd) (rest : List Ent) (rv : Value) (a : Option Addr) (c : Nat) (p : HP), n = m - k ∧ k ≤ m ∧ I.le I' ∧ ρ' 2 = ptr g1 ∧ ρ' 4 = ptr g2 ∧ ρ' 5 = rv ∧ ρ' 21 = vi m ∧ ρ' 22 = vi k ∧
          L' = [F, box g1 72 [vi 0, .bool false, .slice none 0 0], box g2 72 [vi x.id, .bool x.grp, .slice a ns.length c], p] ∧ OwnL Nd.Rp 72 3 I' ns (.slice a ns.length c) p ∧
          LsAt Ent.rep I' rest rv ∧ Tks k r0 = some (ns, rest) ∧ Tks (m - k) rest = some (ms, r) ∧ ks = ns ++ ms ∧ ns.length = k)
        m ⟨0, [], ks, r0, rv0, _, _, _, rfl, by omega, Mem.le.refl _, rfl, rfl, rfl, rfl, rfl, rfl, ⟨[], rfl, trivial⟩, hv1, Tks_zero _, hks, rfl, rfl⟩ ?_
      rintro n ρ' I0 L' ⟨k, ns, ms, rest, rv, a, c, p, rfl, hkm, hI, q2, q4, q5, q21, q22, rfl, hp, hrv, ht1, ht2, hns, hnl⟩
      rw [← upd_self q22, ← upd_self q21, ← upd_self q5, ← upd_self q4, ← upd_self q2]
      clear q22 q21 q5 q4 q2
      have hrl := Tks_le ht1
      by_cases hkn : k < m
      · obtain ⟨n1, r1, ms', hk1, hk2, rfl, hk3⟩ := Tks_step hkn ht1 ht2
        refine WC.seq ?_
        refine WC.region ?_
        refine WL.val (Val.lss rfl rfl (decide_eq_true (by omega))) rfl ?_
        refine WL.nil ?_
        refine WX.thenC ?_
        refine WC.seq ?_
        refine WC.condT rfl ?_
        refine WC.skip ?_
        refine WX.thenC ?_
        refine WC.seq ?_
        refine WC.block ?_
        refine WC.seq ?_
        refine WC.region ?_
        (refine WL.alloc rfl ?_; intro _)
        refine WL.nApp ?_
        refine WL.nil ?_
        refine WX.thenC ?_
        refine WC.seq ?_
        refine WC.region ?_
        refine WL.val Val.move rfl ?_
        refine WL.callP [] rfl rfl (ih rest (by omega) n1 r1 _ _ hrv (by omega) hk1) rfl ?_
        rintro _ I2 _ hI2 ⟨rfl, kv, rv2, rfl, hkv, hid1, hrv2⟩
        have hkv0 := hkv
        obtain ⟨a2, c2, rfl⟩ := hkv.sl
        refine WL.nApp ?_
        refine WL.val (Val.moveT rfl) rfl ?_
        refine WL.val (Val.extractA rfl rfl) rfl ?_
        refine WL.val (Val.extract rfl rfl) rfl ?_
        refine WL.stA 4 rfl rfl rfl rfl ?_
        refine WL.val Val.assign rfl ?_
        refine WL.nil ?_
        refine WX.thenC ?_
        refine WC.region ?_
        refine WL.val (Val.fldAddr rfl) rfl ?_
        refine WL.val (Val.loadS rfl (Rd.own1 2 rfl rfl)) rfl ?_
        refine WL.val (Val.ldO 4 rfl rfl rfl) rfl ?_
        (refine WL.buildSlice (by with_unfolding_all exact rfl) rfl (by with_unfolding_all exact rfl) rfl ?_; intro _)
        refine WL.nApp ?_
        rename_i g5 g6
        refine WL.appOne (y := n1) (cs := [vi n1.id, .bool n1.grp, .slice a2 n1.kids.length c2]) 3 5 rfl rfl (hp.mono hI2) rfl rfl (Nd.rep_iff.2 ⟨hid1, _, rfl, hkv⟩) rfl rfl (by rfl) (by decide) (by omega) (by unfold maxLen; omega) rfl fun aa cc p' hp' => ?_
        refine WL.nSet ?_
        refine WL.val (Val.fldAddr rfl) rfl ?_
        refine WL.stS 2 rfl rfl rfl rfl ?_
        refine WL.nil ?_
        refine WX.inNormal ?_
        refine WX.thenC ?_
        refine WC.region ?_
        refine WL.val (Val.add rfl rfl (wrap_i64 (by omega) (by omega))) rfl ?_
        refine WL.val (Val.moveI rfl) rfl ?_
        refine WL.nil ?_
        refine WX.conv (fun w h => h.sub [0, 0, 0, 0] rfl) ?_
        refine WX.thenK (WK.round (m - (k + 1)) (by omega) ⟨k + 1, ns ++ [n1], ms', r1, rv2, aa, cc, p', rfl, by omega, hI.trans hI2, rfl, rfl, rfl, rfl, rfl, ?_, ?_, hrv2, hk3, hk2, by rw [hns]; simp, by simp [hnl]⟩)
        · rw [List.length_append]; rfl
        · rw [List.length_append]; exact hp'
      · have : k = m := by omega
        subst this
        rw [Nat.sub_self, Tks_zero] at ht2
        cases ht2
        rw [List.append_nil] at hns
        subst hns
        refine WC.seq ?_
        refine WC.region ?_
        refine WL.val (Val.lss rfl rfl (decide_eq_false (by omega))) rfl ?_
        refine WL.nil ?_
        refine WX.thenC ?_
        refine WC.seq ?_
        refine WC.condF rfl ?_
        refine WC.exit ?_
        refine WX.thenExit ?_
        refine WX.thenExit ?_
        refine WX.inHit ?_
        refine WX.thenC ?_
        refine WC.seq ?_
        refine WC.region ?_
        refine WL.val (Val.ldO 2 rfl rfl rfl) rfl ?_
        refine WL.val Val.move rfl ?_
        refine WL.stA 1 rfl rfl rfl rfl ?_
        refine WL.val Val.assign rfl ?_
        refine WL.nil ?_
        refine WX.thenC ?_
        refine WC.ret ?_
        refine WX.freezeL 3 rfl hp fun I2 hI2 hv => ?_
        have hJ := hI.trans hI2
        apply WX.doneP (ks := [])
        case hres => exact RunRes.r2 rfl (ResIs.cellL 1 rfl rfl rfl) (ResIs.tmp rfl)
        case hI => first | exact Mem.le.refl _ | assumption
        exact ⟨rfl, _, _, rfl, hv, hid, hrv.mono hI2⟩
end Go.Proofs.YtggcpoleklcmkaaGreatDoor

/-
  Drawings, the walks: a new drawing; its entries.
-/

namespace Go.Dc
open Go.Sl Go.Ls Go.Tr
theorem ents_len (at_ : Int → Atr) (n : Nd) : (ents at_ n).length = n.size := by
  refine Nd.rec (motive_1 := fun n => (ents at_ n).length = n.size) (motive_2 := fun l => (entss at_ l).length = Nd.sizes l) ?_ ?_ ?_ n
  · intro i g ks h
    rw [ents, Nd.size, List.length_cons, h]; omega
  · rw [entss, Nd.sizes]; rfl
  · intro k ks h1 h2
    rw [entss, Nd.sizes, List.length_append, h1, h2]
theorem entss_app (at_ : Int → Atr) : ∀ (a b : List Nd), entss at_ (a ++ b) = entss at_ a ++ entss at_ b
  | [], b => by rw [entss]; rfl
  | x :: a, b => by rw [List.cons_append, entss, entss, entss_app at_ a b, List.append_assoc]
theorem entss_len (at_ : Int → Atr) : ∀ (l : List Nd), (entss at_ l).length = Nd.sizes l
  | [] => by rw [entss, Nd.sizes]; rfl
  | x :: l => by rw [entss, Nd.sizes, List.length_append, ents_len, entss_len at_ l]
theorem ents_eq (at_ : Int → Atr) (n : Nd) : ents at_ n = ⟨n.id, n.grp, n.kids.length, at_ n.id⟩ :: entss at_ n.kids := by cases n; rfl
/-- What the map of a drawing holds. -/
def AtRep (I : Mem) (at_ : Int → Option Atr) (f : Int → Option Value) : Prop := ∀ i, (at_ i = none ∧ f i = none) ∨ ∃ a v, at_ i = some a ∧ f i = some v ∧ AtrV a v I
theorem AtrV.mono {a : Atr} {v : Value} {I I' : Mem} (h : AtrV a v I) (hI : I.le I') : AtrV a v I' := by
  obtain ⟨t, u, d, q, h1, h2⟩ := h
  exact ⟨t, u, d, q, h1, h2.mono hI⟩
theorem AtRep.mono {I I' : Mem} {at_ : Int → Option Atr} {f : Int → Option Value} (h : AtRep I at_ f) (hI : I.le I') : AtRep I' at_ f := fun i => (h i).imp id fun ⟨a, v, h1, h2, h3⟩ => ⟨a, v, h1, h2, h3.mono hI⟩
abbrev zAtr : Value := .agg (Atr.z.cs (.slice none 0 0) (.slice none 0 0) (.slice none 0 0) (.slice none 0 0)).toArray
theorem AtRep.get {I : Mem} {at_ : Int → Option Atr} {f : Int → Option Value} (h : AtRep I at_ f) (i : Int) : AtrV ((at_ i).getD Atr.z) ((f i).getD zAtr) I := by
  rcases h i with ⟨h1, h2⟩ | ⟨a, v, h1, h2, h3⟩
  · rw [h1, h2]; exact ⟨_, _, _, _, rfl, Atr.z_at I⟩
  · rw [h1, h2]; exact h3
end Go.Dc
namespace Go.Proofs.YtggcpoleklcmkaaGreatDoor
open Go.Sl Go.Ls Go.Tr Go.Dc
set_option maxRecDepth 100000
set_option maxHeartbeats 4000000
set_option linter.unusedVariables false
set_option linter.unusedSimpArgs false
instance : MapK Tryz.prog 78 zAtr := ⟨by kernel_rfl⟩
attribute [local irreducible] WC WL WX WK WA WAK Val Ctr RunRes ResIs Rd At sl box pt Exit.then Exit.inBlock bodyPost Code.wp wpList
abbrev docBox (b tb mb : Nat) (s : Int) : HP := box b 136 [ptr tb, .map (some mb), vi s]
structure Dm where
  b : Nat
  A : Ar
  mb : Nat
  f : Int → Option Value
  cnt : Nat
  segs : Int
abbrev Dm.hp (D : Dm) : List HP := docBox D.b D.A.b D.mb D.segs :: mp D.mb D.f D.cnt :: D.A.hp
/-- A drawing of the program, and what it is. -/
structure DAbs (I : Mem) (D : Dm) (d : Dr) : Prop where
  abs : Abs D.A d.top
  rep : AtRep I d.at_ D.f
  segs : D.segs = d.segs
  dom : ∀ i, (d.at_ i).isSome = true ↔ i ≠ 0 ∧ i ∈ d.top.order
  lim : ∀ i a, d.at_ i = some a → a.lim
theorem DAbs.mono {I I' : Mem} {D : Dm} {d : Dr} (h : DAbs I D d) (hI : I.le I') : DAbs I' D d := ⟨h.abs, h.rep.mono hI, h.segs, h.dom, h.lim⟩
theorem entries_ctr (at_ : Int → Option Atr) (f : Int → Option Value) (b tb mb cnt : Nat) (s : Int) (hlim : ∀ i a, at_ i = some a → a.lim) (N : Nat) : ∀ (nd : Nd), nd.size ≤ N → ∀ (kv : Value) (I : Mem), nd.size ≤ 1000000 → LsAt Nd.Rp I nd.kids kv → I64 nd.id → AtRep I at_ f →
    Ctr Tryz.prog 77 [ptr b, .agg #[vi nd.id, .bool nd.grp, kv]] I [docBox b tb mb s, mp mb f cnt] (KeepR [docBox b tb mb s, mp mb f cnt] fun v I' => LsAt Ent.rep I' (ents (fun i => (at_ i).getD Atr.z) nd) v) := by
  induction N with
  | zero => intro nd h; have := nd.size_pos; omega
  | succ N ih =>
    intro nd hs kv I hb hkv hid hat
    have hkv0 := hkv
    obtain ⟨ka, kc, rfl⟩ := hkv.sl
    have hsz := sizes_lt nd
    have hll := Nd.len_le_sizes nd.kids
    obtain ⟨t0, u0, d0, q0, hf, ha0⟩ := hat.get nd.id
    have hl0 : ((at_ nd.id).getD Atr.z).lim := by
      cases h : at_ nd.id with
      | none => exact ⟨by decide, by decide, by decide, by decide⟩
      | some a => exact hlim _ _ h
    generalize hg0 : (at_ nd.id).getD Atr.z = a0 at *
    refine Ctr.intro Tryz.func77 rfl rfl rfl fun E F => ?_
    refine WC.seq ?_
    refine WC.region ?_
    (refine WL.boxA rfl rfl ?_; intro _)
    refine WL.nApp ?_
    refine WL.val (Val.assignS rfl) rfl ?_
    refine WL.nil ?_
    refine WX.thenC ?_
    refine WC.seq ?_
    refine WC.drawK 999 I [1, 1, 1] rfl (by kernel_rfl) rfl rfl ?_
    refine WA.take 0 rfl (by kernel_rfl) rfl (fun w h => (h.sub [1, 1, 1] rfl)) (Val.fldAddr rfl) rfl ?_
    refine WA.take 1 rfl (by kernel_rfl) rfl (fun w h => (h.sub [1, 1, 1] rfl)) (Val.loadS rfl (Rd.own1 2 rfl rfl)) rfl ?_
    refine WA.take 2 rfl (by kernel_rfl) rfl (fun w h => (h.sub [1, 1, 1] rfl)) (Val.fldAddr rfl) rfl ?_
    refine WA.take 3 rfl (by kernel_rfl) rfl (fun w h => (h.sub [1, 1, 1] rfl)) (Val.loadS rfl (Rd.own1 2 rfl rfl)) rfl ?_
    refine WA.take 4 rfl (by kernel_rfl) rfl (fun w h => (h.sub [1, 1, 1] rfl)) (Val.fldAddr rfl) rfl ?_
    refine WA.take 5 rfl (by kernel_rfl) rfl (fun w h => (h.sub [1, 1, 1] rfl)) (Val.loadS rfl (Rd.own1 2 rfl rfl)) rfl ?_
    refine WA.take 6 rfl (by kernel_rfl) rfl (fun w h => (h.sub [1, 1, 1] rfl)) (Val.len rfl) rfl ?_
    refine WA.take 7 rfl (by kernel_rfl) rfl (fun w h => (h.sub [1, 1, 1] rfl)) (Val.moveP rfl) rfl ?_
    refine WA.take 8 rfl (by kernel_rfl) rfl (fun w h => (h.sub [1, 1, 1] rfl)) (Val.nilCheckP rfl) rfl ?_
    refine WA.take 9 rfl (by kernel_rfl) rfl (fun w h => (h.sub [1, 1, 1] rfl)) (Val.fldAddr rfl) rfl ?_
    refine WA.take 10 rfl (by kernel_rfl) rfl (fun w h => (h.sub [1, 1, 1] rfl)) (Val.loadS rfl (Rd.own1 0 rfl rfl)) rfl ?_
    refine WA.take 11 rfl (by kernel_rfl) rfl (fun w h => (h.sub [1, 1, 1] rfl)) (Val.fldAddr rfl) rfl ?_
    refine WA.take 12 rfl (by kernel_rfl) rfl (fun w h => (h.sub [1, 1, 1] rfl)) (Val.loadS rfl (Rd.own1 2 rfl rfl)) rfl ?_
    first | refine WA.take 13 rfl (by kernel_rfl) rfl (fun w h => (h.sub [1, 1, 1] rfl)) (Val.lookup1v 1 hf rfl rfl rfl) rfl ?_ | refine WA.takeGT 13 rfl (by kernel_rfl) rfl (fun w h => (h.sub [1, 1, 1] rfl)) rfl rfl (Val.lookup1v 1 hf rfl rfl rfl) rfl ?_
    refine WA.eff1 (i := 14) (by kernel_rfl) rfl rfl ?_
    refine WL.callP [] rfl rfl (copied_ctr a0 _ _ _ _ _ ha0 hl0) rfl ?_
    rintro _ I1 _ hI1 ⟨rfl, t1, u1, d1, q1, rfl, ha1⟩
    refine WL.nApp ?_
    refine WL.nil ?_
    refine WK.anyStep (fun w h => (h.sub [1, 1, 1] rfl).less (hI1)) ?_
    obtain ⟨b1, r1, b2, r2, b3, r3, b4, r4, rfl, rfl, rfl, rfl⟩ := ha1.sl
    first | refine WA.take 15 rfl (by kernel_rfl) rfl (fun w h => (h.sub [1, 1, 1] rfl).less (hI1)) (Val.build (cs := Ent.cs ⟨nd.id, nd.grp, nd.kids.length, a0⟩ (.slice b1 a0.sty.fill.stops.length r1) (.slice b2 a0.sty.pen.stops.length r2) (.slice b3 a0.sty.dash.length r3) (.slice b4 a0.path.length r4)) rfl) rfl ?_ | refine WA.takeGT 15 rfl (by kernel_rfl) rfl (fun w h => (h.sub [1, 1, 1] rfl).less (hI1)) rfl rfl (Val.build (cs := Ent.cs ⟨nd.id, nd.grp, nd.kids.length, a0⟩ (.slice b1 a0.sty.fill.stops.length r1) (.slice b2 a0.sty.pen.stops.length r2) (.slice b3 a0.sty.dash.length r3) (.slice b4 a0.path.length r4)) rfl) rfl ?_
    refine WA.eff1 (i := 16) (by kernel_rfl) rfl rfl ?_
    (refine WL.buildSlice (by with_unfolding_all exact rfl) rfl (by with_unfolding_all exact rfl) rfl ?_; intro _)
    rename_i g3 g4
    refine WL.nApp ?_
    refine WL.boxSl (e := 69) (sz := 37) (n := 1) 4 rfl rfl (by decide) ?_
    refine WL.nil ?_
    refine WK.anyStep (fun w h => (h.sub [1, 1, 1] rfl).less (hI1)) ?_
    refine WA.take 17 rfl (by kernel_rfl) rfl (fun w h => (h.sub [1, 1, 1] rfl).less (hI1)) (Val.assignS rfl) rfl ?_
    refine WA.done (by kernel_rfl) ?_
    refine WX.thenC ?_
    refine WC.seq ?_
    refine WC.seq ?_
    refine WC.region ?_
    refine WL.val (Val.fldAddr rfl) rfl ?_
    refine WL.val (Val.loadS rfl (Rd.own1 3 rfl rfl)) rfl ?_
    refine WL.val (Val.len rfl) rfl ?_
    refine WL.val (Val.moveI rfl) rfl ?_
    refine WL.nil ?_
    refine WX.thenC ?_
    refine WC.block ?_
    have hp0 : OwnL Ent.rep 69 37 I1 [⟨nd.id, nd.grp, nd.kids.length, a0⟩] (.slice (some ⟨g4, 0, none⟩) 1 1) (sl 69 37 (.slice (some ⟨g4, 0, none⟩) 1 1) 1 (Ent.cs ⟨nd.id, nd.grp, nd.kids.length, a0⟩ (.slice b1 a0.sty.fill.stops.length r1) (.slice b2 a0.sty.pen.stops.length r2) (.slice b3 a0.sty.dash.length r3) (.slice b4 a0.path.length r4))) :=
      ⟨[_], rfl, ⟨_, _, _, _, rfl, hid, ⟨by show (-9223372036854775808 : Int) ≤ (nd.kids.length : Int); omega, by show (nd.kids.length : Int) ≤ 9223372036854775807; omega⟩, ha1⟩, trivial⟩
    have hel := entss_len (fun i => (at_ i).getD Atr.z) nd.kids
    refine WC.loop (fun n ρ' I' L' => ∃ (k : Nat) (a : Option Addr) (c : Nat) (p : HP), n = nd.kids.length - k ∧ k ≤ nd.kids.length ∧ I1.le I' ∧ ρ' 0 = ptr b ∧ ρ' 5 = .slice a (1 + Nd.sizes (nd.kids.take k)) c ∧ ρ' 26 = .slice ka nd.kids.length kc ∧ ρ' 27 = vi nd.kids.length ∧ ρ' 28 = vi k ∧
        L' = [F, docBox b tb mb s, mp mb f cnt, box g3 72 [vi nd.id, .bool nd.grp, .slice ka nd.kids.length kc], p] ∧ OwnL Ent.rep 69 37 I' (⟨nd.id, nd.grp, nd.kids.length, a0⟩ :: entss (fun i => (at_ i).getD Atr.z) (nd.kids.take k)) (.slice a (1 + Nd.sizes (nd.kids.take k)) c) p)
      nd.kids.length ⟨0, _, _, _, rfl, by omega, Mem.le.refl _, rfl, rfl, rfl, rfl, rfl, rfl, hp0⟩ ?_
    rintro n ρ' I2 L' ⟨k, a, c, p, rfl, hk, hI2, q0, q5, q26, q27, q28, rfl, hp⟩
    rw [← upd_self q28, ← upd_self q27, ← upd_self q26, ← upd_self q5, ← upd_self q0]
    clear q28 q27 q26 q5 q0
    by_cases hkn : k < nd.kids.length
    · obtain ⟨bk, ofk, cak, cs, he, hR, hA⟩ := (hkv.mono (hI1.trans hI2)).get k hkn
      cases he
      obtain ⟨hik, kv1, rfl, hkv1⟩ := Nd.rep_iff.1 hR
      have hkv10 := hkv1
      obtain ⟨ka1, kc1, rfl⟩ := hkv1.sl
      have hbk := kid_sz hkn
      have hst := Nd.sizes_take nd.kids (k + 1)
      have htk : Nd.sizes (nd.kids.take (k + 1)) = Nd.sizes (nd.kids.take k) + (nd.kids[k]).size := by rw [take1 _ _ hkn, Nd.sizes_app, Nd.sizes, Nd.sizes, Nat.add_zero]
      have hen : entss (fun i => (at_ i).getD Atr.z) (nd.kids.take (k + 1)) = entss (fun i => (at_ i).getD Atr.z) (nd.kids.take k) ++ ents (fun i => (at_ i).getD Atr.z) (nd.kids[k]) := by rw [take1 _ _ hkn, entss_app, entss, entss, List.append_nil]
      have hek := ents_len (fun i => (at_ i).getD Atr.z) (nd.kids[k])
      have hets := entss_len (fun i => (at_ i).getD Atr.z) (nd.kids.take k)
      refine WC.seq ?_
      refine WC.region ?_
      refine WL.val (Val.lss rfl rfl (decide_eq_true (by omega))) rfl ?_
      refine WL.nil ?_
      refine WX.thenC ?_
      refine WC.seq ?_
      refine WC.condT rfl ?_
      refine WC.skip ?_
      refine WX.thenC ?_
      refine WC.seq ?_
      refine WC.block ?_
      refine WC.seq ?_
      refine WC.region ?_
      refine WL.val (Val.indexAddr rfl rfl (by omega) (by omega)) rfl ?_
      refine WL.val (Val.loadI rfl (by assumption) rfl) rfl ?_
      (refine WL.alloc rfl ?_; intro _)
      refine WL.nApp ?_
      refine WL.stA 5 rfl rfl rfl rfl ?_
      refine WL.nil ?_
      refine WX.thenC ?_
      refine WC.region ?_
      refine WL.val (Val.moveS rfl) rfl ?_
      refine WL.val (Val.moveP rfl) rfl ?_
      refine WL.val (Val.ldO 5 rfl rfl rfl) rfl ?_
      refine WL.callR [1, 1] rfl rfl rfl (ih _ (kid_lt hs hkn) _ _ (by omega) hkv10 hik (hat.mono (hI1.trans hI2))) rfl ?_
      rintro v I3 hI3 hv
      refine WL.appL (R := Ent.rep) 4 rfl rfl (hp.mono hI3) rfl hv (fun x cs h => ?_) (by rfl) (by decide) (by simp only [List.length_cons, hets, hek]; omega) (by simp only [List.length_cons, hets, hek]; unfold maxLen; omega) rfl fun aa cc p' hp' => ?_
      · obtain ⟨t1, u1, d1, q1, rfl, h⟩ := h
        obtain ⟨_, _, _, _, _, _, _, _, rfl, rfl, rfl, rfl⟩ := h.sl
        rfl
      refine WL.nSet ?_
      have hlen : ((⟨nd.id, nd.grp, nd.kids.length, a0⟩ : Ent) :: entss (fun i => (at_ i).getD Atr.z) (nd.kids.take k) ++ ents (fun i => (at_ i).getD Atr.z) (nd.kids[k])).length = 1 + Nd.sizes (nd.kids.take (k + 1)) := by
        simp only [List.length_append, List.length_cons, hets, hek]; omega
      rw [hlen] at hp' ⊢
      rw [List.cons_append, ← hen] at hp'
      refine WL.val (Val.assignS rfl) rfl ?_
      refine WL.nil ?_
      refine WX.inNormal ?_
      refine WX.thenC ?_
      refine WC.region ?_
      refine WL.val (Val.add rfl rfl (wrap_i64 (by omega) (by omega))) rfl ?_
      refine WL.val (Val.moveI rfl) rfl ?_
      refine WL.nil ?_
      refine WX.conv (fun w h => h.sub [0, 0, 0, 0, 0] rfl) ?_
      exact WX.thenK (WK.round (nd.kids.length - (k + 1)) (by omega) ⟨k + 1, aa, cc, p', rfl, by omega, hI2.trans hI3, rfl, rfl, rfl, rfl, rfl, rfl, hp'⟩)
    · have : k = nd.kids.length := by omega
      subst this
      rw [List.take_length] at hp ⊢
      refine WC.seq ?_
      refine WC.region ?_
      refine WL.val (Val.lss rfl rfl (decide_eq_false (by omega))) rfl ?_
      refine WL.nil ?_
      refine WX.thenC ?_
      refine WC.seq ?_
      refine WC.condF rfl ?_
      refine WC.exit ?_
      refine WX.thenExit ?_
      refine WX.thenExit ?_
      refine WX.inHit ?_
      refine WX.thenC ?_
      refine WC.seq ?_
      refine WC.region ?_
      refine WL.val (Val.moveS rfl) rfl ?_
      refine WL.val (Val.assignS rfl) rfl ?_
      refine WL.nil ?_
      refine WX.thenC ?_
      refine WC.ret ?_
      refine WX.freezeL 4 rfl hp fun I3 hI3 hv => ?_
      have hJ := hI1.trans (hI2.trans hI3)
      apply WX.doneP (ks := [0, 0])
      case hres => exact RunRes.r1 rfl (ResIs.tmpS rfl)
      case hI => first | exact Mem.le.refl _ | assumption
      refine ⟨rfl, ?_⟩
      rw [ents_eq]
      simp only [hg0]
      exact hv
theorem dNew (I : Mem) : Ctr Tryz.prog 32 [] I [] (fun v I' L' => I' = I ∧ ∃ b tb mb cg db, v = ptr db ∧ L' = docBox db b tb 0 :: mp tb (fun _ => none) 0 :: (Ar.fresh b mb cg).hp) := by
  refine Ctr.intro Tryz.func32 rfl rfl rfl fun E F => ?_
  refine WC.seq ?_
  refine WC.region ?_
  refine WL.val (Val.assignP rfl) rfl ?_
  refine WL.nil ?_
  refine WX.thenC ?_
  refine WC.seq ?_
  refine WC.region ?_
  refine WL.callP [] rfl rfl (tNew _) rfl ?_
  rintro _ I1 _ _ ⟨rfl, b, mb, cg, rfl, rfl⟩
  refine WL.nApp ?_
  refine WL.makeMap rfl fun tb => ?_
  refine WL.nApp ?_
  refine WL.val (Val.build (cs := [ptr b, .map (some tb), vi 0]) rfl) rfl ?_
  (refine WL.boxA rfl rfl ?_; intro _)
  refine WL.nApp ?_
  refine WL.val (Val.assignP rfl) rfl ?_
  refine WL.nil ?_
  refine WX.thenC ?_
  refine WC.ret ?_
  rename_i db
  apply WX.doneP (ks := [6, 5, 0, 0, 0, 0, 0])
  case hres => exact RunRes.r1 rfl (ResIs.tmpP rfl)
  case hI => first | exact Mem.le.refl _ | assumption
  exact ⟨rfl, b, tb, mb, cg, db, rfl, rfl⟩
theorem dEntries (D : Dm) (d : Dr) (I : Mem) (hD : DAbs I D d) : Ctr Tryz.prog 28 [ptr D.b] I D.hp (KeepR D.hp fun v I' => LsAt Ent.rep I' d.entries v) := by
  have hsz := hD.abs.size_le
  have hit : I64 d.top.id := by rw [hD.abs.id0]; exact ⟨by decide, by decide⟩
  refine Ctr.intro Tryz.func28 rfl rfl rfl fun E F => ?_
  refine WC.seq ?_
  refine WC.region ?_
  refine WL.val (Val.assignS rfl) rfl ?_
  refine WL.nil ?_
  refine WX.thenC ?_
  refine WC.seq ?_
  refine WC.region ?_
  refine WL.val (Val.moveP rfl) rfl ?_
  refine WL.val (Val.nilCheckP rfl) rfl ?_
  refine WL.val (Val.fldAddr rfl) rfl ?_
  refine WL.val (Val.loadS rfl (Rd.own1 1 rfl rfl)) rfl ?_
  refine WL.callR [3, 3, 3, 3, 3] rfl rfl rfl (aNode D.A d.top hD.abs 0 _) rfl ?_
  rintro _ I1 hI1 ⟨_, rfl, kn, rfl, hkn, hin⟩
  rw [hD.abs.find0] at hkn hin ⊢
  simp only [Option.isSome, Option.getD] at hkn hin ⊢
  have hkn0 := hkn
  obtain ⟨na, nc, rfl⟩ := hkn.sl
  refine WL.val (Val.moveT rfl) rfl ?_
  refine WL.val (Val.extractA rfl rfl) rfl ?_
  refine WL.val (Val.extractB rfl rfl) rfl ?_
  (refine WL.alloc rfl ?_; intro _)
  refine WL.nApp ?_
  refine WL.stA 8 rfl rfl rfl rfl ?_
  refine WL.val (Val.assignB rfl) rfl ?_
  refine WL.nil ?_
  refine WX.thenC ?_
  refine WC.seq ?_
  refine WC.region ?_
  refine WL.val (Val.moveP rfl) rfl ?_
  refine WL.val (Val.ldO 8 rfl rfl rfl) rfl ?_
  refine WL.callR [1, 1] rfl rfl rfl (entries_ctr d.at_ D.f D.b D.A.b D.mb D.cnt D.segs hD.lim _ d.top (Nat.le_refl _) _ _ (by omega) hkn0 hin (hD.rep.mono hI1)) rfl ?_
  rintro v I2 hI2 hv
  have hel := ents_len (fun i => (d.at_ i).getD Atr.z) d.top
  have hpos := d.top.size_pos
  obtain ⟨bb, off, cap, cs, he, _, _⟩ := hv.get 0 (by omega)
  subst he
  have hv1 := hv.drop2 1 (by omega)
  have hcp := hv.cap
  refine WL.val (Val.sliceFrom2 (m := 1) rfl rfl (by omega) (by omega)) rfl ?_
  refine WL.val (Val.assignS rfl) rfl ?_
  refine WL.nil ?_
  refine WX.thenC ?_
  refine WC.ret ?_
  have hJ := hI1.trans hI2
  apply WX.doneP (ks := [0, 0, 0, 0, 0, 0, 0])
  case hres => exact RunRes.r1 rfl (ResIs.tmpS rfl)
  case hI => first | exact Mem.le.refl _ | assumption
  refine ⟨rfl, ?_⟩
  rw [Dr.entries, ← List.drop_one]
  exact hv1
end Go.Proofs.YtggcpoleklcmkaaGreatDoor

/-
  Drawings, the plain law: which nodes there are behind a command.
-/

namespace Go.Tr
open Go.Sl Go.Ls
set_option linter.unusedVariables false
set_option linter.unusedSimpArgs false
namespace Nd
/-- Other kids: what goes, and what comes. -/
theorem count_with {q : Int} (x : Int) (ks : List Nd) (n : Nd) : ∀ p, Nd.find q n = some p → n.order.Nodup → (Nd.with_ q ks n).order.count x + (orders p.kids).count x = n.order.count x + (orders ks).count x := by
  refine Nd.rec (motive_1 := fun n => ∀ p, Nd.find q n = some p → n.order.Nodup → (Nd.with_ q ks n).order.count x + (orders p.kids).count x = n.order.count x + (orders ks).count x) (motive_2 := fun l => ∀ p, finds q l = some p → (orders l).Nodup → (orders (withs q ks l)).count x + (orders p.kids).count x = (orders l).count x + (orders ks).count x) ?_ ?_ ?_ n
  · intro j g ks0 ih p hp ho
    rw [Nd.find] at hp
    rw [Nd.with_, order, order, List.count_cons, List.count_cons]
    rw [order, List.nodup_cons] at ho
    by_cases hj : j = q
    · rw [if_pos hj] at hp; cases hp
      rw [if_pos hj]
      show _ + (orders ks0).count x = _
      omega
    · rw [if_neg hj] at hp
      rw [if_neg hj]
      have := ih p hp ho.2
      omega
  · intro p hp; simp [finds] at hp
  · intro k l h1 h2 p hp ho
    rw [finds] at hp
    rw [orders, List.nodup_append] at ho
    rw [withs, orders, orders, List.count_append, List.count_append]
    cases hk : Nd.find q k with
    | some y =>
      rw [hk] at hp; cases hp
      have hq : q ∈ k.order := (find_some q k).1 (by rw [hk]; rfl)
      have h3 := h1 _ hk ho.1
      rw [withs_none q _ l fun hl => ho.2.2 q hq q hl rfl]
      omega
    | none =>
      rw [hk] at hp
      have hn : q ∉ k.order := fun hm => by
        have := (find_some q k).2 hm
        rw [hk] at this; cases this
      have h3 := h2 _ hp ho.2.1
      rw [with_none q _ k hn]
      omega
theorem add_err {top n : Nd} {p ix : Int} : (Nd.add top p ix n).2 ≠ 0 → (Nd.add top p ix n).1 = top := by
  rw [Nd.add]
  repeat' split
  all_goals (intro h; first | rfl | exact absurd rfl h)
theorem wrap_err {top : Nd} {i p ix c : Int} : (Nd.wrap top i p ix c).2 ≠ 0 → (Nd.wrap top i p ix c).1 = top := by
  rw [Nd.wrap]
  repeat' split
  all_goals (intro h; first | rfl | exact absurd rfl h)
theorem count_td (x : Int) (l : List Nd) (k : Nat) : (orders (l.take k)).count x + (orders (l.drop k)).count x = (orders l).count x := by
  rw [← List.count_append, ← orders_app, List.take_append_drop]
theorem count_add {top n : Nd} {p ix : Int} (ho : top.order.Nodup) (h : (Nd.add top p ix n).2 = 0) (x : Int) : (Nd.add top p ix n).1.order.count x = top.order.count x + n.order.count x := by
  rw [Nd.add] at h ⊢
  split at h
  · exact absurd h (by show ¬ (31 : Int) = 0; decide)
  · rename_i m hm
    split at h
    · exact absurd h (by show ¬ (33 : Int) = 0; decide)
    · rename_i hg
      rw [if_neg hg]
      split at h
      · exact absurd h (by show ¬ (30 : Int) = 0; decide)
      · rename_i hx
        rw [if_neg hx]
        split at h
        · rename_i hf
          exact absurd h hf
        · rename_i hf
          rw [if_neg hf]
          have h1 := count_with x (m.kids.take ix.toNat ++ n :: m.kids.drop ix.toNat) top m hm ho
          have h2 := count_td x m.kids ix.toNat
          rw [orders_app, orders, List.count_append, List.count_append] at h1
          simp only
          omega
end Nd
section
variable {A : Ar} {top : Nd}
open Nd
theorem Nd.count_wrap (ho : top.order.Nodup) {i p ix c : Int} (h : (Nd.wrap top i p ix c).2 = 0) (x : Int) : (Nd.wrap top i p ix c).1.order.count x = top.order.count x + (if i = x then 1 else 0) := by
  rw [Nd.wrap] at h ⊢
  split at h
  · exact absurd h (by show ¬ (31 : Int) = 0; decide)
  · rename_i m hm
    split at h
    · exact absurd h (by show ¬ (33 : Int) = 0; decide)
    · rename_i hg
      rw [if_neg hg]
      split at h
      · exact absurd h (by show ¬ (30 : Int) = 0; decide)
      · rename_i hx
        rw [if_neg hx]
        split at h
        · rename_i hf
          exact absurd h hf
        · rename_i hf
          rw [if_neg hf]
          split at h
          · exact absurd h (by show ¬ (35 : Int) = 0; decide)
          · rename_i hd
            rw [if_neg hd]
            have h1 := count_with x (m.kids.take ix.toNat ++ (mk i true ((m.kids.drop ix.toNat).take c.toNat) :: m.kids.drop (ix.toNat + c.toNat))) top m hm ho
            have h2 := count_td x m.kids ix.toNat
            have h3 := count_td x (m.kids.drop ix.toNat) c.toNat
            rw [List.drop_drop] at h3
            rw [orders_app, orders, order, List.count_append, List.count_append, List.count_cons] at h1
            simp only [beq_iff_eq] at h1
            simp only
            omega
end
end Go.Tr

/-
  Drawings, the plain law: what the map of a drawing holds behind a command.
-/

namespace Go.Dc
open Go.Sl Go.Ls Go.Tr
set_option linter.unusedVariables false
set_option linter.unusedSimpArgs false
theorem tk_order : ∀ (f : Nat), (∀ (l : List Ent) n r, tk f l = some (n, r) → l.map Ent.id = n.order ++ r.map Ent.id) ∧ ∀ (k : Nat) (l : List Ent) ns r, tks f k l = some (ns, r) → l.map Ent.id = Nd.orders ns ++ r.map Ent.id := by
  intro f
  induction f with
  | zero =>
    refine ⟨fun l n r h => ?_, fun k l ns r h => ?_⟩
    · rw [tk] at h; cases h
    · cases k with
      | zero => rw [tks] at h; cases h; rfl
      | succ k => rw [tks] at h; cases h
  | succ f ih =>
    refine ⟨fun l n r h => ?_, fun k l ns r h => ?_⟩
    · cases l with
      | nil => rw [tk] at h; cases h
      | cons x l =>
        rw [tk] at h
        split at h
        · cases h
        · split at h
          · cases h
          · rename_i ks rest he
            cases h
            rw [List.map_cons, ih.2 _ _ _ _ he, Nd.order]; rfl
    · cases k with
      | zero => rw [tks] at h; cases h; rfl
      | succ k =>
        rw [tks] at h
        split at h
        · cases h
        · rename_i n r1 he
          split at h
          · cases h
          · rename_i ns' r2 he2
            cases h
            rw [ih.1 _ _ _ he, ih.2 _ _ _ _ he2, Nd.orders, List.append_assoc]
theorem Tk_order {l : List Ent} {n : Nd} {r : List Ent} (h : Tk l = some (n, r)) : l.map Ent.id = n.order ++ r.map Ent.id := (tk_order _).1 _ _ _ h
theorem nodeOf_eq {l : List Ent} {n : Nd} (h : Tk l = some (n, [])) : nodeOf l = n := by
  rw [nodeOf, show tk (2 * l.length) l = some (n, []) from h]; rfl
theorem Tk_size {l : List Ent} {n : Nd} (h : Tk l = some (n, [])) : n.size = l.length := by
  have h1 := congrArg List.length (Tk_order h)
  simp only [List.length_map, List.map_nil, List.append_nil] at h1
  rw [h1, Nd.order_len]
/-! what is right is not long -/
theorem stopsCheck_lim {l : List Stp} (h : stopsCheck l = 0) : l.length ≤ 16 := by
  rw [stopsCheck] at h
  split at h
  · rename_i hg
    have hf : ∀ (l : List Stp) (b : Option Stp), stopsGo false b l = false := fun l => by
      induction l with
      | nil => intro b; rfl
      | cons x l ih => intro b; rw [stopsGo, Bool.false_and]; exact ih _
    cases hd : decide (1 ≤ l.length ∧ l.length ≤ 16) with
    | true => exact (of_decide_eq_true hd).2
    | false => rw [hd, hf] at hg; cases hg
  · exact absurd h (by decide)
theorem Pnt.check_lim {p : Pnt} (h : p.check = 0) : p.stops.length ≤ 16 := by
  rw [Pnt.check] at h
  split at h
  · exact absurd h (by decide)
  split at h
  · exact absurd h (by decide)
  split at h
  · exact absurd h (by decide)
  rename_i h3
  split at h
  · exact absurd h (by decide)
  split at h
  · exact stopsCheck_lim h
  · rename_i h5
    have : ¬ 0 < p.stops.length := fun e => h3 ⟨h5, .inr (.inr e)⟩
    omega
theorem dashCheck_lim {l : List Int} {ph : Int} (h : dashCheck l ph = 0) : l.length ≤ 8 := by
  rw [dashCheck] at h
  split at h
  · rename_i h1; omega
  split at h
  · exact absurd h (by decide)
  · omega
theorem Sty.check_lim {s : Sty} (h : s.check = 0) : s.fill.stops.length ≤ 16 ∧ s.pen.stops.length ≤ 16 ∧ s.dash.length ≤ 8 := by
  rw [Sty.check] at h
  split at h
  · rename_i h1; exact absurd h h1
  rename_i h1
  split at h
  · rename_i h2; exact absurd h h2
  rename_i h2
  split at h
  · exact absurd h (by decide)
  exact ⟨Pnt.check_lim (Decidable.of_not_not h1), Pnt.check_lim (Decidable.of_not_not h2), dashCheck_lim h⟩
theorem pathCheck_lim {l : List Sg} (h : pathCheck l = 0) : l.length ≤ 4096 := by
  rw [pathCheck] at h
  split at h
  · exact absurd h (by decide)
  · omega
theorem Atr.check_ok {a : Atr} {g : Bool} (h : a.check g = 0) : a.mtx.right ∧ a.sty.check = 0 ∧ pathCheck a.path = 0 := by
  rw [Atr.check] at h
  split at h
  · exact absurd h (by decide)
  rename_i h1
  split at h
  · rename_i h2; exact absurd h h2
  rename_i h2
  split at h
  · rename_i h3; exact absurd h h3
  rename_i h3
  exact ⟨Decidable.of_not_not h1, Decidable.of_not_not h2, Decidable.of_not_not h3⟩
theorem Atr.check_lim {a : Atr} {g : Bool} (h : a.check g = 0) : a.lim := by
  obtain ⟨_, h1, h2⟩ := Atr.check_ok h
  obtain ⟨a1, a2, a3⟩ := Sty.check_lim h1
  have := pathCheck_lim h2
  exact ⟨by omega, by omega, by omega, by omega⟩
theorem putAll_some : ∀ (l : List Ent) (f : Int → Option Atr) (i : Int), (putAll f l i).isSome = true ↔ (f i).isSome = true ∨ i ∈ l.map Ent.id
  | [], f, i => by simp [putAll]
  | x :: l, f, i => by
    rw [putAll, putAll_some l, upAt, List.map_cons, List.mem_cons]
    by_cases h : i = x.id
    · simp [h]
    · simp [h]
theorem putAll_of : ∀ (l : List Ent) (f : Int → Option Atr) (i : Int) (a : Atr), putAll f l i = some a → f i = some a ∨ ∃ x ∈ l, x.id = i ∧ x.atr = a
  | [], f, i, a, h => .inl h
  | x :: l, f, i, a, h => by
    rw [putAll] at h
    rcases putAll_of l _ i a h with h | ⟨y, hy, h1, h2⟩
    · rw [upAt] at h
      split at h
      · rename_i hi
        cases h
        exact .inr ⟨x, List.mem_cons_self .., hi.symm, rfl⟩
      · exact .inl h
    · exact .inr ⟨y, List.mem_cons_of_mem _ hy, h1, h2⟩
theorem mem_count {l : List Int} {i : Int} : i ∈ l ↔ 0 < l.count i := List.count_pos_iff.symm
theorem nodup_count {l : List Int} (h : l.Nodup) (i : Int) : l.count i ≤ 1 := List.nodup_iff_count.1 h i
/-- The domain behind wrapping. -/
theorem dom_wrap {at_ : Int → Option Atr} {o o' : List Int} {j : Int} {a : Atr} (hdom : ∀ i, (at_ i).isSome = true ↔ i ≠ 0 ∧ i ∈ o) (h0 : 0 ∈ o) (hn : o'.Nodup) (hc : ∀ x, o'.count x = o.count x + (if j = x then 1 else 0)) : ∀ i, (upAt at_ j a i).isSome = true ↔ i ≠ 0 ∧ i ∈ o' := by
  intro i
  have h1 := hc i
  have h2 := nodup_count hn i
  rw [mem_count] at h0 ⊢
  rw [upAt]
  by_cases h : i = j
  · subst h
    rw [if_pos rfl] at h1 ⊢
    refine ⟨fun _ => ⟨fun e => ?_, by omega⟩, fun _ => rfl⟩
    subst e
    omega
  · rw [if_neg (fun e => h e.symm)] at h1
    rw [if_neg h, hdom i, mem_count]
    exact ⟨fun e => ⟨e.1, by have := e.2; omega⟩, fun e => ⟨e.1, by have := e.2; omega⟩⟩
theorem dom_add {at_ : Int → Option Atr} {o o' m : List Int} {l : List Ent} (hdom : ∀ i, (at_ i).isSome = true ↔ i ≠ 0 ∧ i ∈ o) (h0 : 0 ∈ o) (hn : o'.Nodup) (hm : l.map Ent.id = m) (hc : ∀ x, o'.count x = o.count x + m.count x) : ∀ i, (putAll at_ l i).isSome = true ↔ i ≠ 0 ∧ i ∈ o' := by
  intro i
  have h1 := hc i
  have h2 := nodup_count hn i
  rw [putAll_some, hm, hdom i]
  simp only [mem_count] at h0 ⊢
  constructor
  · rintro (⟨a, b⟩ | b)
    · exact ⟨a, by omega⟩
    · refine ⟨fun e => ?_, by omega⟩
      subst e
      omega
  · rintro ⟨a, b⟩
    rcases Nat.eq_zero_or_pos (m.count i) with h | h
    · exact .inl ⟨a, by omega⟩
    · exact .inr h
theorem mem0 {A : Ar} {top : Nd} (h : Abs A top) : 0 ∈ top.order := by
  have := Nd.id_mem top
  rwa [h.id0] at this
end Go.Dc
