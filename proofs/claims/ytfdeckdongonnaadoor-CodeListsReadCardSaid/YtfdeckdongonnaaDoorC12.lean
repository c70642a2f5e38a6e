/-
  Code, the walks: writing texts, colours.
-/
import Derived.Test.YtfdeckdongonnaaDoorC11
namespace Go.Sl
variable {Γ : Cx} {ρ : Nat → Value} {I : Mem} {L : List HP} {Q : Post}
theorem WC.freezeBox {c : Code} {g e : Nat} {xs : List Value} {L' : List HP} (k : Nat) (hL : L[k]? = some (Sl.box g e xs)) [hE : EraL L k L'] (next : ∀ I', I.le I' → At I' g 0 xs → WC Γ c ρ I' L' Q) : WC Γ c ρ I L Q := fun a w ha hw => by
  have h := hw.freezeK (b := g) (o := .cells xs.toArray e (0, 0)) hL
  rw [hE.is] at h
  exact next _ h.2 ⟨xs.toArray, e, (0, 0), by simp [Mem.ins], fun j v hj => by simpa using hj⟩ a w ha h.1
variable {ops : Array Oper} {rest : List Oper}
theorem WL.slOpen {e sz n : Nat} {v : Value} {xs : List Value} (k : Nat) (hL : L[k]? = some (sl e sz v n xs)) (next : ∀ aa cap, v = .slice aa n cap → WL Γ ops rest ρ I L Q) : WL Γ ops rest ρ I L Q := fun a w ha hw => by
  obtain ⟨m, hm, h1, h2⟩ := (hw.perm (pull k L _ hL)).head
  rcases h2 with ⟨rfl, rfl⟩ | ⟨g, cap, cur, hv, _⟩
  · exact next _ _ rfl a w ha hw
  · exact next _ _ hv a w ha hw
end Go.Sl
namespace Go.Proofs.YtfdeckdongonnaaDoor
open Go.Sl Go.Cd
set_option maxRecDepth 100000
set_option maxHeartbeats 4000000
set_option linter.unusedVariables false
attribute [local irreducible] WC WL WX WK WA WAK Val Ctr RunRes ResIs Rd At sl box pt Exit.then Exit.inBlock bodyPost Code.wp wpList
theorem outText (o ty : Nat) (v sv : Value) (tl : List Value) (bs t : Bs) (I : Mem) (hv : Byt I v t) (hl : (bs ++ tw t).length ≤ 1099511627776) :
    Ctr Tryd.prog 97 [ptr o, v] I [box o ty (sv :: tl), sl 5 1 sv bs.length (bs.map byt)]
      (fun v I' L' => I' = I ∧ ∃ sv', L' = [box o ty (sv' :: tl), sl 5 1 sv' (bs ++ tw t).length ((bs ++ tw t).map byt)]) := by
  obtain ⟨a, cap, rfl, hc⟩ := SlAt.len hv
  have hlen : (bs ++ tw t).length = bs.length + ((eInt t.length).length + t.length) := by simp [tw]
  refine Ctr.intro Tryd.func97 rfl rfl rfl fun E F => ?_
  refine WC.seq ?_
  refine WC.region ?_
  refine WL.val (Val.assignP rfl) rfl ?_
  refine WL.nil ?_
  refine WX.thenC ?_
  refine WC.seq ?_
  refine WC.region ?_
  refine WL.val (Val.moveP rfl) rfl ?_
  refine WL.val (Val.moveS rfl) rfl ?_
  refine WL.val (Val.len rfl) rfl ?_
  refine WL.callP [1, 1] rfl rfl (outInt o ty sv tl bs t.length _ ⟨by omega, by omega⟩ (by omega)) rfl ?_
  rintro _ _ _ - ⟨rfl, rfl, sv2, rfl⟩
  refine WL.nApp ?_
  refine WL.slOpen 2 rfl ?_
  rintro a2 cap2 rfl
  have hl2 : (bs ++ eInt (t.length : Int)).length = bs.length + (eInt t.length).length := List.length_append
  rw [hlen] at hl
  refine WL.nil ?_
  refine WX.thenC ?_
  refine WC.seq ?_
  refine WC.region ?_
  refine WL.val (Val.moveP rfl) rfl ?_
  refine WL.val (Val.moveP rfl) rfl ?_
  refine WL.val (Val.nilCheckP rfl) rfl ?_
  refine WL.val (Val.fldAddr rfl) rfl ?_
  refine WL.val (Val.loadS rfl (Rd.own1 1 rfl rfl)) rfl ?_
  refine WL.val (Val.moveS rfl) rfl ?_
  by_cases h0 : t = []
  · subst h0
    refine WL.append0 2 rfl rfl rfl rfl ?_
    refine WL.val (Val.nilCheckP rfl) rfl ?_
    refine WL.val (Val.fldAddr rfl) rfl ?_
    refine WL.stS 1 rfl rfl rfl rfl ?_
    refine WL.nil ?_
    refine WX.thenC ?_
    refine WC.seq ?_
    refine WC.region ?_
    refine WL.val (Val.moveP rfl) rfl ?_
    refine WL.val (Val.assignP rfl) rfl ?_
    refine WL.nil ?_
    refine WX.thenC ?_
    refine WC.ret ?_
    apply WX.doneP (ks := [0, 0])
    case hres => exact RunRes.r1 rfl (ResIs.tmpP rfl)
    case hI => first | exact Mem.le.refl _ | assumption
    refine ⟨rfl, .slice a2 (bs ++ eInt (([] : Bs).length : Int)).length cap2, ?_⟩
    rw [show tw [] = eInt (([] : Bs).length : Int) by simp [tw]]
  · obtain ⟨a', c', h1, h2, ⟨h3, h4⟩ | ⟨b, off, h3, h4⟩⟩ := hv
    · exact absurd (List.eq_nil_of_length_eq_zero h3) h0
    · cases h1
      cases h3
      have hl0 : 0 < t.length := by cases t with | nil => exact absurd rfl h0 | cons => simp
      refine WL.append 2 rfl rfl rfl (Rd.imm h4) (by simp) (by simp [Value.oneCell']) (by rfl) (by decide) hl0 (by omega) (by unfold maxLen; omega) rfl ?_
      intro g2 cap2
      refine WL.nSet ?_
      refine WL.val (Val.nilCheckP rfl) rfl ?_
      refine WL.val (Val.fldAddr rfl) rfl ?_
      refine WL.stS 1 rfl rfl rfl rfl ?_
      refine WL.nil ?_
      refine WX.thenC ?_
      refine WC.seq ?_
      refine WC.region ?_
      refine WL.val (Val.moveP rfl) rfl ?_
      refine WL.val (Val.assignP rfl) rfl ?_
      refine WL.nil ?_
      refine WX.thenC ?_
      refine WC.ret ?_
      apply WX.doneP (ks := [0, 0])
      case hres => exact RunRes.r1 rfl (ResIs.tmpP rfl)
      case hI => first | exact Mem.le.refl _ | assumption
      refine ⟨rfl, .slice (some ⟨g2, 0, none⟩) ((bs ++ eInt (t.length : Int)).length + t.length) cap2, ?_⟩
      have e1 : bs ++ tw t = (bs ++ eInt t.length) ++ t := by simp [tw]
      rw [e1]
      simp only [List.length_append, List.map_append]
theorem ocolor_ctr (o : Nat) (c : Col) (sv : Value) (bad : Bool) (bs : Bs) (I : Mem) (hl : (bs ++ c.w).length ≤ 1099511627776) :
    Ctr Tryd.prog 95 [ptr o, .agg c.cs.toArray] I (outL o sv bad bs) (WrP o c.w bad bs) := by
  refine Ctr.intro Tryd.func95 rfl rfl rfl fun E F => ?_
  refine WC.seq ?_
  refine WC.region ?_
  (refine WL.box rfl rfl ?_; intro _)
  refine WL.nApp ?_
  refine WL.nil ?_
  refine WX.thenC ?_
  rename_i g
  refine WC.freezeBox (xs := c.cs) 3 rfl fun I1 hI1 hA => ?_
  refine WC.drawK 999 I1 [] rfl (by kernel_rfl) rfl rfl ?_
  refine WA.take 0 rfl (by kernel_rfl) rfl (fun w h => (h.sub [] rfl)) (Val.moveP rfl) rfl ?_
  refine WA.take 1 rfl (by kernel_rfl) rfl (fun w h => (h.sub [] rfl)) (Val.nilCheckP rfl) rfl ?_
  refine WA.take 2 rfl (by kernel_rfl) rfl (fun w h => (h.sub [] rfl)) (Val.fldAddr rfl) rfl ?_
  refine WA.take 3 rfl (by kernel_rfl) rfl (fun w h => (h.sub [] rfl)) (Val.sliceA rfl (.none _) (.none _) (by decide) (by decide)) rfl ?_
  refine WA.eff1 (i := 4) (by kernel_rfl) rfl rfl ?_
  refine WL.callP [1, 1] rfl rfl (outText o 116 (.slice (some ⟨g, 0, none⟩) 4 4) sv [.bool bad] bs [c.r, c.g, c.b, c.a] _ ⟨_, _, rfl, by simp [maxLen], .inr ⟨g, 0, rfl, hA⟩⟩ hl) rfl ?_
  rintro _ _ _ - ⟨rfl, sv2, rfl⟩
  refine WL.nil ?_
  refine WK.anyStep (fun w h => (h.sub [] rfl)) ?_
  refine WA.done (by kernel_rfl) ?_
  skip
  apply WX.doneN (ks := [0, 0])
  case hres => exact RunRes.r0 rfl
  case hp => rfl
  case hI => first | exact Mem.le.refl _ | assumption
  exact ⟨sv2, rfl⟩
end Go.Proofs.YtfdeckdongonnaaDoor
