/-
  Code, the walks: texts, colours, stops.
-/
import Derived.Test.YtfdeckdongonnaaDoorC2
namespace Go.Proofs.YtfdeckdongonnaaDoor
open Go.Sl Go.Cd
set_option maxRecDepth 100000
set_option linter.unusedVariables false
attribute [local irreducible] WC WL WX WK WA WAK Val Ctr RunRes ResIs Rd At sl box pt Exit.then Exit.inBlock bodyPost Code.wp wpList
/-- (*frame.In).Text -/
theorem inText (b : Nat) (sv : Value) (bd : Bool) (bs : Bs) (I : Mem) (hb : Byt I sv bs) :
    Ctr Tryd.prog 96 [ptr b] I [box b 132 [sv, .bool bd]]
      (fun v I' L' => I' = I ∧ ∃ t sv' bd' bs', Byt I v t ∧ L' = [box b 132 [sv', .bool bd']] ∧ Byt I sv' bs' ∧ Reads tw tok (st bd false bs) t (st bd' false bs')) := by
  refine Ctr.intro Tryd.func96 rfl rfl rfl fun E F => ?_
  refine WC.seq ?_
  refine WC.region ?_
  refine WL.val (Val.assignS rfl) rfl ?_
  refine WL.nil ?_
  refine WX.thenC ?_
  refine WC.seq ?_
  refine WC.region ?_
  refine WL.val (Val.moveP rfl) rfl ?_
  refine WL.callP [1] rfl rfl (inInt b sv bd bs I hb) rfl ?_
  rintro _ _ _ - ⟨rfl, n, sv1, bd1, bs1, rfl, hn, rfl, hB1, hR1⟩
  cases bd1
  · obtain ⟨a, cap, rfl, hc⟩ := SlAt.len hB1
    have refuse : (n < 0 ∨ n > (bs1.length : Int)) → Reads tw tok (st bd false bs) [] none := fun h => Reads.bad fun t r ht hs => by
      rw [tw, List.append_assoc] at hs
      obtain ⟨h1, h2⟩ := hR1.whole _ _ ht hs
      have h3 : bs1 = t ++ r := by simpa [st] using h2
      rw [h3] at h
      simp at h
      omega
    by_cases h0 : n < 0
    · skip
      refine WL.nApp ?_
      refine WL.val (Val.assignI rfl) rfl ?_
      refine WL.nil ?_
      refine WX.thenC ?_
      refine WC.seq ?_
      refine WC.seq ?_
      refine WC.region ?_
      refine WL.val (Val.moveP rfl) rfl ?_
      refine WL.val (Val.nilCheckP rfl) rfl ?_
      refine WL.val (Val.fldAddr rfl) rfl ?_
      refine WL.val (Val.loadS rfl (Rd.own1 1 rfl rfl)) rfl ?_
      refine WL.val (Val.moveB rfl) rfl ?_
      refine WL.gT rfl rfl ?_
      refine WL.val (Val.moveI rfl) rfl ?_
      refine WL.gT rfl rfl ?_
      refine WL.val (Val.lss rfl rfl (decide_eq_true (by omega))) rfl ?_
      refine WL.val (Val.pick rfl) rfl ?_
      refine WL.val (Val.moveB rfl) rfl ?_
      refine WL.gF rfl rfl rfl rfl ?_
      refine WL.gF rfl rfl rfl rfl ?_
      refine WL.gF rfl rfl rfl rfl ?_
      refine WL.gF rfl rfl rfl rfl ?_
      refine WL.gF rfl rfl rfl rfl ?_
      refine WL.gF rfl rfl rfl rfl ?_
      refine WL.gF rfl rfl rfl rfl ?_
      refine WL.val (Val.pick rfl) rfl ?_
      refine WL.nil ?_
      refine WX.thenC ?_
      refine WC.condT rfl ?_
      refine WC.seq ?_
      refine WC.region ?_
      refine WL.val (Val.moveP rfl) rfl ?_
      refine WL.val (Val.nilCheckP rfl) rfl ?_
      refine WL.val (Val.fldAddr rfl) rfl ?_
      refine WL.stB 1 rfl rfl rfl rfl ?_
      refine WL.nil ?_
      refine WX.thenC ?_
      refine WC.seq ?_
      refine WC.region ?_
      refine WL.val (Val.assignS rfl) rfl ?_
      refine WL.nil ?_
      refine WX.thenC ?_
      refine WC.ret ?_
      refine WX.thenRet ?_
      apply WX.doneP (ks := [0])
      case hres => exact RunRes.r1 rfl (ResIs.tmpS rfl)
      case hI => first | exact Mem.le.refl _ | assumption
      exact ⟨rfl, [], _, true, bs1, Byt.nil _, rfl, hB1, refuse (.inl h0)⟩
    · by_cases h1 : n > (bs1.length : Int)
      · skip
        refine WL.nApp ?_
        refine WL.val (Val.assignI rfl) rfl ?_
        refine WL.nil ?_
        refine WX.thenC ?_
        refine WC.seq ?_
        refine WC.seq ?_
        refine WC.region ?_
        refine WL.val (Val.moveP rfl) rfl ?_
        refine WL.val (Val.nilCheckP rfl) rfl ?_
        refine WL.val (Val.fldAddr rfl) rfl ?_
        refine WL.val (Val.loadS rfl (Rd.own1 1 rfl rfl)) rfl ?_
        refine WL.val (Val.moveB rfl) rfl ?_
        refine WL.gT rfl rfl ?_
        refine WL.val (Val.moveI rfl) rfl ?_
        refine WL.gT rfl rfl ?_
        refine WL.val (Val.lss rfl rfl (decide_eq_false (by omega))) rfl ?_
        refine WL.val (Val.pick rfl) rfl ?_
        refine WL.val (Val.moveB rfl) rfl ?_
        refine WL.gT rfl rfl ?_
        refine WL.val (Val.moveI rfl) rfl ?_
        refine WL.gT rfl rfl ?_
        refine WL.val (Val.moveP rfl) rfl ?_
        refine WL.gT rfl rfl ?_
        refine WL.val (Val.nilCheckP rfl) rfl ?_
        refine WL.gT rfl rfl ?_
        refine WL.val (Val.fldAddr rfl) rfl ?_
        refine WL.gT rfl rfl ?_
        refine WL.val (Val.loadS rfl (Rd.own1 1 rfl rfl)) rfl ?_
        refine WL.gT rfl rfl ?_
        refine WL.val (Val.len rfl) rfl ?_
        refine WL.gT rfl rfl ?_
        refine WL.val (Val.gtr rfl rfl (decide_eq_true (by omega))) rfl ?_
        refine WL.val (Val.pick rfl) rfl ?_
        refine WL.nil ?_
        refine WX.thenC ?_
        refine WC.condT rfl ?_
        refine WC.seq ?_
        refine WC.region ?_
        refine WL.val (Val.moveP rfl) rfl ?_
        refine WL.val (Val.nilCheckP rfl) rfl ?_
        refine WL.val (Val.fldAddr rfl) rfl ?_
        refine WL.stB 1 rfl rfl rfl rfl ?_
        refine WL.nil ?_
        refine WX.thenC ?_
        refine WC.seq ?_
        refine WC.region ?_
        refine WL.val (Val.assignS rfl) rfl ?_
        refine WL.nil ?_
        refine WX.thenC ?_
        refine WC.ret ?_
        refine WX.thenRet ?_
        apply WX.doneP (ks := [0])
        case hres => exact RunRes.r1 rfl (ResIs.tmpS rfl)
        case hI => first | exact Mem.le.refl _ | assumption
        exact ⟨rfl, [], _, true, bs1, Byt.nil _, rfl, hB1, refuse (.inr h1)⟩
      · obtain ⟨m, rfl⟩ := Int.eq_ofNat_of_zero_le (by omega : 0 ≤ n)
        refine WL.nApp ?_
        refine WL.val (Val.assignI rfl) rfl ?_
        refine WL.nil ?_
        refine WX.thenC ?_
        refine WC.seq ?_
        refine WC.seq ?_
        refine WC.region ?_
        refine WL.val (Val.moveP rfl) rfl ?_
        refine WL.val (Val.nilCheckP rfl) rfl ?_
        refine WL.val (Val.fldAddr rfl) rfl ?_
        refine WL.val (Val.loadS rfl (Rd.own1 1 rfl rfl)) rfl ?_
        refine WL.val (Val.moveB rfl) rfl ?_
        refine WL.gT rfl rfl ?_
        refine WL.val (Val.moveI rfl) rfl ?_
        refine WL.gT rfl rfl ?_
        refine WL.val (Val.lss rfl rfl (decide_eq_false (by omega))) rfl ?_
        refine WL.val (Val.pick rfl) rfl ?_
        refine WL.val (Val.moveB rfl) rfl ?_
        refine WL.gT rfl rfl ?_
        refine WL.val (Val.moveI rfl) rfl ?_
        refine WL.gT rfl rfl ?_
        refine WL.val (Val.moveP rfl) rfl ?_
        refine WL.gT rfl rfl ?_
        refine WL.val (Val.nilCheckP rfl) rfl ?_
        refine WL.gT rfl rfl ?_
        refine WL.val (Val.fldAddr rfl) rfl ?_
        refine WL.gT rfl rfl ?_
        refine WL.val (Val.loadS rfl (Rd.own1 1 rfl rfl)) rfl ?_
        refine WL.gT rfl rfl ?_
        refine WL.val (Val.len rfl) rfl ?_
        refine WL.gT rfl rfl ?_
        refine WL.val (Val.gtr rfl rfl (decide_eq_false (by omega))) rfl ?_
        refine WL.val (Val.pick rfl) rfl ?_
        refine WL.nil ?_
        refine WX.thenC ?_
        refine WC.condF rfl ?_
        refine WC.skip ?_
        refine WX.thenC ?_
        refine WC.seq ?_
        refine WC.region ?_
        refine WL.val (Val.moveP rfl) rfl ?_
        refine WL.val (Val.nilCheckP rfl) rfl ?_
        refine WL.val (Val.fldAddr rfl) rfl ?_
        refine WL.val (Val.loadS rfl (Rd.own1 1 rfl rfl)) rfl ?_
        refine WL.val (Val.moveI rfl) rfl ?_
        refine WL.val (Val.moveI rfl) rfl ?_
        refine WL.val (Val.slice3 (h := m) (m := m) rfl rfl rfl (by omega) (by omega) rfl rfl (by omega) (by omega)) rfl ?_
        refine WL.val (Val.assignS rfl) rfl ?_
        refine WL.nil ?_
        refine WX.thenC ?_
        refine WC.seq ?_
        refine WC.region ?_
        refine WL.val (Val.moveP rfl) rfl ?_
        refine WL.val (Val.moveP rfl) rfl ?_
        refine WL.val (Val.nilCheckP rfl) rfl ?_
        refine WL.val (Val.fldAddr rfl) rfl ?_
        refine WL.val (Val.loadS rfl (Rd.own1 1 rfl rfl)) rfl ?_
        refine WL.val (Val.moveI rfl) rfl ?_
        refine WL.val (Val.slice (l := m) rfl (.some (e := (m : Int)) rfl (Int.natCast_nonneg m)) (.none _) (by omega) (by omega)) rfl ?_
        refine WL.val (Val.nilCheckP rfl) rfl ?_
        refine WL.val (Val.fldAddr rfl) rfl ?_
        refine WL.stS 1 rfl rfl rfl rfl ?_
        refine WL.nil ?_
        refine WX.thenC ?_
        refine WC.seq ?_
        refine WC.region ?_
        refine WL.val (Val.moveS rfl) rfl ?_
        refine WL.val (Val.assignS rfl) rfl ?_
        refine WL.nil ?_
        refine WX.thenC ?_
        refine WC.ret ?_
        apply WX.doneP (ks := [0])
        case hres => exact RunRes.r1 rfl (ResIs.tmpS rfl)
        case hI => first | exact Mem.le.refl _ | assumption
        have p1 := hB1.part 0 m m (by omega) (by omega) (by omega) (by omega)
        have p2 := hB1.part m bs1.length cap (by omega) (by omega) hc (by omega)
        rw [List.take_length] at p2
        rw [List.drop_zero] at p1
        refine ⟨rfl, bs1.take m, _, false, bs1.drop m, p1, rfl, p2, fun r hr => ?_, fun t r ht hs => ?_⟩
        · obtain ⟨o, e⟩ := hR1.sound bs1 rfl
          have hr' : bs1.drop m = r := by simpa [st] using hr
          have hlen : (bs1.take m).length = m := by simp; omega
          refine ⟨by unfold tok; rw [hlen]; exact hn, ?_⟩
          rw [tw, hlen, e, List.append_assoc, ← hr', List.take_append_drop]
        · rw [tw, List.append_assoc] at hs
          obtain ⟨h2, h3⟩ := hR1.whole _ _ ht hs
          have h4 : bs1 = t ++ r := by simpa [st] using h3
          have h5 : m = t.length := by omega
          subst h4
          subst h5
          exact ⟨by simp, by simp [st]⟩
  · skip
    refine WL.nApp ?_
    refine WL.val (Val.assignI rfl) rfl ?_
    refine WL.nil ?_
    refine WX.thenC ?_
    refine WC.seq ?_
    refine WC.seq ?_
    refine WC.region ?_
    refine WL.val (Val.moveP rfl) rfl ?_
    refine WL.val (Val.nilCheckP rfl) rfl ?_
    refine WL.val (Val.fldAddr rfl) rfl ?_
    refine WL.val (Val.loadS rfl (Rd.own1 1 rfl rfl)) rfl ?_
    refine WL.val (Val.moveB rfl) rfl ?_
    refine WL.gF rfl rfl rfl rfl ?_
    refine WL.gF rfl rfl rfl rfl ?_
    refine WL.val (Val.pick rfl) rfl ?_
    refine WL.val (Val.moveB rfl) rfl ?_
    refine WL.gF rfl rfl rfl rfl ?_
    refine WL.gF rfl rfl rfl rfl ?_
    refine WL.gF rfl rfl rfl rfl ?_
    refine WL.gF rfl rfl rfl rfl ?_
    refine WL.gF rfl rfl rfl rfl ?_
    refine WL.gF rfl rfl rfl rfl ?_
    refine WL.gF rfl rfl rfl rfl ?_
    refine WL.val (Val.pick rfl) rfl ?_
    refine WL.nil ?_
    refine WX.thenC ?_
    refine WC.condT rfl ?_
    refine WC.seq ?_
    refine WC.region ?_
    refine WL.val (Val.moveP rfl) rfl ?_
    refine WL.val (Val.nilCheckP rfl) rfl ?_
    refine WL.val (Val.fldAddr rfl) rfl ?_
    refine WL.stB 1 rfl rfl rfl rfl ?_
    refine WL.nil ?_
    refine WX.thenC ?_
    refine WC.seq ?_
    refine WC.region ?_
    refine WL.val (Val.assignS rfl) rfl ?_
    refine WL.nil ?_
    refine WX.thenC ?_
    refine WC.ret ?_
    refine WX.thenRet ?_
    apply WX.doneP (ks := [0])
    case hres => exact RunRes.r1 rfl (ResIs.tmpS rfl)
    case hI => first | exact Mem.le.refl _ | assumption
    refine ⟨rfl, [], sv1, true, bs1, Byt.nil _, rfl, hB1, Reads.bad fun t r ht hs => ?_⟩
    rw [tw, List.append_assoc] at hs
    have := (hR1.whole _ _ ht hs).2
    simp [st] at this
theorem color_ctr (c b : Nat) (sv : Value) (b2 b1 : Bool) (bs : Bs) (I : Mem) (hb : Byt I sv bs) :
    Ctr Tryd.prog 90 [ptr c] I (inL c b sv b2 b1) (RdP agg Col.rep Col.w (fun _ => True) c b (st b1 b2 bs)) := by
  refine Ctr.intro Tryd.func90 rfl rfl rfl fun E F => ?_
  refine WC.seq ?_
  refine WC.region ?_
  (refine WL.alloc rfl ?_; intro _)
  refine WL.nApp ?_
  refine WL.nil ?_
  refine WX.thenC ?_
  refine WC.seq ?_
  refine WC.region ?_
  refine WL.val (Val.moveP rfl) rfl ?_
  refine WL.val (Val.nilCheckP rfl) rfl ?_
  refine WL.val (Val.fldAddr rfl) rfl ?_
  refine WL.val (Val.loadS rfl (Rd.own1 1 rfl rfl)) rfl ?_
  refine WL.callP [2] rfl rfl (inText b sv b1 bs I hb) rfl ?_
  rintro v _ _ - ⟨rfl, t, sv1, c1, bs1, hT, rfl, hB1, hR1⟩
  obtain ⟨a, cap, rfl, hc⟩ := SlAt.len hT
  have hR := hR1.lift b2
  by_cases h4 : t.length = 4
  · obtain ⟨r, g, bl, al, rfl⟩ : ∃ r g bl al, t = [r, g, bl, al] := by
      match t, h4 with
      | [r, g, bl, al], _ => exact ⟨r, g, bl, al, rfl⟩
    refine WL.nApp ?_
    refine WL.val (Val.assignS rfl) rfl ?_
    refine WL.nil ?_
    refine WX.thenC ?_
    refine WC.seq ?_
    refine WC.seq ?_
    refine WC.region ?_
    refine WL.val (Val.moveS rfl) rfl ?_
    refine WL.val (Val.len rfl) rfl ?_
    refine WL.val (Val.neq rfl rfl (bne_eq_false_iff_eq.2 (by omega))) rfl ?_
    refine WL.nil ?_
    refine WX.thenC ?_
    refine WC.condF rfl ?_
    refine WC.skip ?_
    refine WX.thenC ?_
    refine WC.seq ?_
    refine WC.region ?_
    refine WL.val (Val.sliceA rfl (.none _) (.none _) (by decide) (by decide)) rfl ?_
    refine WL.val (Val.moveS rfl) rfl ?_
    refine WL.copy (o := 0) 2 rfl rfl rfl (show SlAt _ _ 4 [byt r, byt g, byt bl, byt al] from hT) (by rfl) (by simp) (by simp) (by rfl) (by simp) rfl ?_
    refine WL.nil ?_
    refine WX.thenC ?_
    refine WC.seq ?_
    refine WC.region ?_
    refine WL.val (Val.ldO 2 rfl rfl rfl) rfl ?_
    refine WL.stA 2 rfl rfl rfl rfl ?_
    refine WL.nil ?_
    refine WX.thenC ?_
    refine WC.ret ?_
    apply WX.doneP (ks := [0, 1])
    case hres => exact RunRes.r1 rfl (ResIs.cellL 2 rfl rfl rfl)
    case hI => first | exact Mem.le.refl _ | assumption
    refine ⟨⟨r, g, bl, al⟩, _, sv1, b2, c1, bs1, rfl, rfl, rfl, hB1, hR.map (fun c => [c.r, c.g, c.b, c.a]) (fun _ _ => ⟨rfl, by simp, by simp⟩) (fun _ => ⟨trivial, rfl⟩) ?_⟩
    rintro ⟨r', g', b', a'⟩ _ h
    simp only [List.cons.injEq, and_true] at h
    obtain ⟨rfl, rfl, rfl, rfl⟩ := h
    rfl
  · skip
    refine WL.nApp ?_
    refine WL.val (Val.assignS rfl) rfl ?_
    refine WL.nil ?_
    refine WX.thenC ?_
    refine WC.seq ?_
    refine WC.seq ?_
    refine WC.region ?_
    refine WL.val (Val.moveS rfl) rfl ?_
    refine WL.val (Val.len rfl) rfl ?_
    refine WL.val (Val.neq rfl rfl (bne_iff_ne.2 (by omega))) rfl ?_
    refine WL.nil ?_
    refine WX.thenC ?_
    refine WC.condT rfl ?_
    refine WC.seq ?_
    refine WC.region ?_
    refine WL.val (Val.moveP rfl) rfl ?_
    refine WL.callP [1, 2] rfl rfl (fail_ctr c b sv1 b2 c1 _) rfl ?_
    rintro _ _ _ - ⟨rfl, rfl⟩
    refine WL.nApp ?_
    refine WL.nil ?_
    refine WX.thenC ?_
    refine WC.seq ?_
    refine WC.region ?_
    refine WL.val (Val.ldO 1 rfl rfl rfl) rfl ?_
    refine WL.stA 1 rfl rfl rfl rfl ?_
    refine WL.nil ?_
    refine WX.thenC ?_
    refine WC.ret ?_
    refine WX.thenRet ?_
    apply WX.doneP (ks := [1, 1])
    case hres => exact RunRes.r1 rfl (ResIs.cellL 1 rfl rfl rfl)
    case hI => first | exact Mem.le.refl _ | assumption
    refine ⟨Col.z, _, sv1, true, c1, bs1, rfl, rfl, rfl, hB1, ?_⟩
    rw [show st c1 true bs1 = none by simp [st]]
    refine Reads.bad fun y r hy hs => h4 ?_
    have := (hR.whole [y.r, y.g, y.b, y.a] r ⟨by simp, by simp⟩ hs).1
    rw [this]
    rfl
theorem stop_ctr (c b : Nat) (sv : Value) (b2 b1 : Bool) (bs : Bs) (I : Mem) (hb : Byt I sv bs) :
    Ctr Tryd.prog 92 [ptr c] I (inL c b sv b2 b1) (RdP agg Stp.rep Stp.w (fun s => I64 s.pos) c b (st b1 b2 bs)) := by
  refine Ctr.intro Tryd.func92 rfl rfl rfl fun E F => ?_
  refine WC.seq ?_
  refine WC.region ?_
  (refine WL.alloc rfl ?_; intro _)
  refine WL.nApp ?_
  refine WL.nil ?_
  refine WX.thenC ?_
  refine WC.seq ?_
  refine WC.region ?_
  refine WL.val (Val.moveP rfl) rfl ?_
  refine WL.val (Val.nilCheckP rfl) rfl ?_
  refine WL.val (Val.fldAddr rfl) rfl ?_
  refine WL.val (Val.loadS rfl (Rd.own1 1 rfl rfl)) rfl ?_
  refine WL.callP [2] rfl rfl (inInt b sv b1 bs I hb) rfl ?_
  rintro _ _ _ - ⟨rfl, n1, sv1, c1, bs1, rfl, hn1, rfl, hB1, hR1⟩
  refine WL.nApp ?_
  refine WL.val (Val.build (cs := [vi n1, .int .u8 0, .int .u8 0, .int .u8 0, .int .u8 0]) rfl) rfl ?_
  (refine WL.alloc rfl ?_; intro _)
  refine WL.nApp ?_
  refine WL.stA 4 rfl rfl rfl rfl ?_
  refine WL.nil ?_
  refine WX.thenC ?_
  refine WC.seq ?_
  refine WC.region ?_
  refine WL.val (Val.moveP rfl) rfl ?_
  refine WL.callP [1, 2] rfl rfl (color_ctr c b sv1 b2 c1 bs1 _ hB1) rfl ?_
  rintro _ I1 _ hI ⟨x, _, sv2, d2, c2, bs2, rfl, rfl, rfl, hB2, hR2⟩
  refine WL.nApp ?_
  refine WL.val (Val.fldAddr rfl) rfl ?_
  refine WL.stA 2 rfl rfl rfl rfl ?_
  refine WL.nil ?_
  refine WX.thenC ?_
  refine WC.seq ?_
  refine WC.region ?_
  refine WL.val (Val.ldO 2 rfl rfl rfl) rfl ?_
  refine WL.stA 1 rfl rfl rfl rfl ?_
  refine WL.nil ?_
  refine WX.thenC ?_
  refine WC.ret ?_
  apply WX.doneP (ks := [2, 2])
  case hres => exact RunRes.r1 rfl (ResIs.cellL 1 rfl rfl rfl)
  case hI => first | exact Mem.le.refl _ | assumption
  refine ⟨⟨n1, x⟩, _, sv2, d2, c2, bs2, rfl, ⟨rfl, hn1⟩, rfl, hB2, (hR1.lift b2).pair hR2 Stp.pos Stp.col (fun p hp => ⟨rfl, hp, trivial⟩) (fun _ _ => ⟨hn1, rfl, rfl⟩) ?_⟩
  rintro ⟨x, y⟩ _ rfl rfl
  rfl
end Go.Proofs.YtfdeckdongonnaaDoor
