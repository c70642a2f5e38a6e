/-
  Code, the walks: reading.
-/
import Derived.Test.YtfdeckdongonnaaDoorC1
import Derived.Test.YtfdeckdongonnaaDoorC0b
namespace Go.Proofs.YtfdeckdongonnaaDoor
open Go.Sl Go.Cd
set_option maxRecDepth 100000
set_option linter.unusedVariables false
attribute [local irreducible] WC WL WX WK WA WAK Val Ctr RunRes ResIs Rd At sl box pt Exit.then Exit.inBlock bodyPost Code.wp wpList
/-- (*frame.In).Count -/
theorem inCount (b : Nat) (sv : Value) (bd : Bool) (bs : Bs) (most : Int) (I : Mem) (hb : Byt I sv bs) (hm : 0 ≤ most) :
    Ctr Tryd.prog 76 [ptr b, .int .i64 most] I [box b 132 [sv, .bool bd]]
      (fun v I' L' => I' = I ∧ ∃ n sv' bd' bs', v = .int .i64 n ∧ (0 ≤ n ∧ n ≤ most) ∧ L' = [box b 132 [sv', .bool bd']] ∧ Byt I sv' bs' ∧ Reads eInt (fun n => I64 n ∧ 0 ≤ n ∧ n ≤ most) (st bd false bs) n (st bd' false bs')) := by
  refine Ctr.intro Tryd.func76 rfl rfl rfl fun E F => ?_
  refine WC.seq ?_
  refine WC.region ?_
  refine WL.val (Val.assignI rfl) rfl ?_
  refine WL.nil ?_
  refine WX.thenC ?_
  refine WC.seq ?_
  refine WC.region ?_
  refine WL.val (Val.moveP rfl) rfl ?_
  refine WL.callP [1] rfl rfl (inInt b sv bd bs I hb) rfl ?_
  rintro _ _ _ - ⟨rfl, n, sv1, bd1, bs1, rfl, hn, rfl, hB1, hR1⟩
  by_cases h0 : n < 0
  · skip
    refine WL.nApp ?_
    refine WL.val (Val.assignI rfl) rfl ?_
    refine WL.nil ?_
    refine WX.thenC ?_
    refine WC.seq ?_
    refine WC.seq ?_
    refine WC.region ?_
    refine WL.val (Val.moveI rfl) rfl ?_
    refine WL.val (Val.lss rfl rfl (decide_eq_true (by omega))) rfl ?_
    refine WL.val (Val.moveB rfl) rfl ?_
    refine WL.gF rfl rfl rfl rfl ?_
    refine WL.gF rfl rfl rfl rfl ?_
    refine WL.gF rfl rfl rfl rfl ?_
    refine WL.val (Val.pick rfl) rfl ?_
    refine WL.nil ?_
    refine WX.thenC ?_
    refine WC.condT rfl ?_
    refine WC.seq ?_
    refine WC.region ?_
    refine WL.val (Val.moveP rfl) rfl ?_
    refine WL.val (Val.nilCheckP rfl) rfl ?_
    refine WL.val (Val.fldAddr rfl) rfl ?_
    refine WL.stB 1 rfl rfl rfl rfl ?_
    refine WL.nil ?_
    refine WX.thenC ?_
    refine WC.seq ?_
    refine WC.region ?_
    refine WL.val (Val.assignI rfl) rfl ?_
    refine WL.nil ?_
    refine WX.thenC ?_
    refine WC.ret ?_
    refine WX.thenRet ?_
    apply WX.doneP (ks := [0])
    case hres => exact RunRes.r1 rfl (ResIs.tmpI rfl)
    case hI => first | exact Mem.le.refl _ | assumption
    exact ⟨rfl, 0, sv1, true, bs1, rfl, ⟨by omega, by omega⟩, rfl, hB1, hR1.refuse (fun n => 0 ≤ n ∧ n ≤ most) (by omega) _⟩
  · by_cases h1 : n > most
    · skip
      refine WL.nApp ?_
      refine WL.val (Val.assignI rfl) rfl ?_
      refine WL.nil ?_
      refine WX.thenC ?_
      refine WC.seq ?_
      refine WC.seq ?_
      refine WC.region ?_
      refine WL.val (Val.moveI rfl) rfl ?_
      refine WL.val (Val.lss rfl rfl (decide_eq_false (by omega))) rfl ?_
      refine WL.val (Val.moveB rfl) rfl ?_
      refine WL.gT rfl rfl ?_
      refine WL.val (Val.moveI rfl) rfl ?_
      refine WL.gT rfl rfl ?_
      refine WL.val (Val.moveI rfl) rfl ?_
      refine WL.gT rfl rfl ?_
      refine WL.val (Val.gtr rfl rfl (decide_eq_true (by omega))) rfl ?_
      refine WL.val (Val.pick rfl) rfl ?_
      refine WL.nil ?_
      refine WX.thenC ?_
      refine WC.condT rfl ?_
      refine WC.seq ?_
      refine WC.region ?_
      refine WL.val (Val.moveP rfl) rfl ?_
      refine WL.val (Val.nilCheckP rfl) rfl ?_
      refine WL.val (Val.fldAddr rfl) rfl ?_
      refine WL.stB 1 rfl rfl rfl rfl ?_
      refine WL.nil ?_
      refine WX.thenC ?_
      refine WC.seq ?_
      refine WC.region ?_
      refine WL.val (Val.assignI rfl) rfl ?_
      refine WL.nil ?_
      refine WX.thenC ?_
      refine WC.ret ?_
      refine WX.thenRet ?_
      apply WX.doneP (ks := [0])
      case hres => exact RunRes.r1 rfl (ResIs.tmpI rfl)
      case hI => first | exact Mem.le.refl _ | assumption
      exact ⟨rfl, 0, sv1, true, bs1, rfl, ⟨by omega, by omega⟩, rfl, hB1, hR1.refuse (fun n => 0 ≤ n ∧ n ≤ most) (by omega) _⟩
    · skip
      refine WL.nApp ?_
      refine WL.val (Val.assignI rfl) rfl ?_
      refine WL.nil ?_
      refine WX.thenC ?_
      refine WC.seq ?_
      refine WC.seq ?_
      refine WC.region ?_
      refine WL.val (Val.moveI rfl) rfl ?_
      refine WL.val (Val.lss rfl rfl (decide_eq_false (by omega))) rfl ?_
      refine WL.val (Val.moveB rfl) rfl ?_
      refine WL.gT rfl rfl ?_
      refine WL.val (Val.moveI rfl) rfl ?_
      refine WL.gT rfl rfl ?_
      refine WL.val (Val.moveI rfl) rfl ?_
      refine WL.gT rfl rfl ?_
      refine WL.val (Val.gtr rfl rfl (decide_eq_false (by omega))) rfl ?_
      refine WL.val (Val.pick rfl) rfl ?_
      refine WL.nil ?_
      refine WX.thenC ?_
      refine WC.condF rfl ?_
      refine WC.skip ?_
      refine WX.thenC ?_
      refine WC.seq ?_
      refine WC.region ?_
      refine WL.val (Val.moveI rfl) rfl ?_
      refine WL.val (Val.assignI rfl) rfl ?_
      refine WL.nil ?_
      refine WX.thenC ?_
      refine WC.ret ?_
      apply WX.doneP (ks := [0])
      case hres => exact RunRes.r1 rfl (ResIs.tmpI rfl)
      case hI => first | exact Mem.le.refl _ | assumption
      exact ⟨rfl, n, sv1, bd1, bs1, rfl, ⟨by omega, by omega⟩, rfl, hB1, hR1.also (fun n => 0 ≤ n ∧ n ≤ most) (by omega)⟩
/-- bytes.Clone: in new memory. -/
theorem clone_ctr (sv : Value) (bs : Bs) (I : Mem) (hb : Byt I sv bs) (hl : bs.length ≤ 1099511627776) :
    Ctr Tryd.prog 75 [sv] I [] (fun v I' L' => L' = [] ∧ Byt I' v bs) := by
  obtain ⟨a, cap, rfl, hc⟩ := SlAt.len hb
  refine Ctr.intro Tryd.func75 rfl rfl rfl fun E F => ?_
  refine WC.seq ?_
  refine WC.region ?_
  refine WL.val (Val.assignS rfl) rfl ?_
  refine WL.nil ?_
  refine WX.thenC ?_
  refine WC.seq ?_
  refine WC.seq ?_
  refine WC.region ?_
  refine WL.val (Val.moveS rfl) rfl ?_
  refine WL.val (Val.eqlNil rfl) rfl ?_
  cases a with
  | none =>
    refine WL.nil ?_
    refine WX.thenC ?_
    refine WC.condT rfl ?_
    refine WC.seq ?_
    refine WC.region ?_
    refine WL.val (Val.assignS rfl) rfl ?_
    refine WL.nil ?_
    refine WX.thenC ?_
    refine WC.ret ?_
    refine WX.thenRet ?_
    apply WX.doneP (ks := [])
    case hres => exact RunRes.r1 rfl (ResIs.tmpS rfl)
    case hI => first | exact Mem.le.refl _ | assumption
    refine ⟨rfl, ?_⟩
    have : bs = [] := by
      obtain ⟨a', c', h1, h2, ⟨h3, h4⟩ | ⟨b, off, h3, h4⟩⟩ := hb
      · exact List.eq_nil_of_length_eq_zero h3
      · cases h1; cases h3
    subst this
    exact Byt.nil _
  | some a =>
    refine WL.nil ?_
    refine WX.thenC ?_
    refine WC.condF rfl ?_
    refine WC.skip ?_
    refine WX.thenC ?_
    refine WC.seq ?_
    refine WC.region ?_
    (refine WL.buildSlice (by with_unfolding_all exact rfl) rfl (by with_unfolding_all exact rfl) rfl ?_; intro _)
    refine WL.nApp ?_
    refine WL.val (Val.moveS rfl) rfl ?_
    refine WL.boxSl (xs := []) (sz := 1) (n := 0) 1 rfl rfl (by decide) ?_
    by_cases h0 : bs = []
    · subst h0
      refine WL.append0 1 rfl rfl rfl rfl ?_
      refine WL.val (Val.assignS rfl) rfl ?_
      refine WL.nil ?_
      refine WX.thenC ?_
      refine WC.ret ?_
      refine WX.freeze 1 rfl fun I' hI hA => ?_
      apply WX.doneP (ks := [])
      case hres => exact RunRes.r1 rfl (ResIs.tmpS rfl)
      case hI => first | exact Mem.le.refl _ | assumption
      exact ⟨rfl, hA⟩
    · obtain ⟨a', c', h1, h2, ⟨h3, h4⟩ | ⟨b, off, h3, h4⟩⟩ := hb
      · exact absurd (List.eq_nil_of_length_eq_zero h3) h0
      · cases h1
        cases h3
        have hlen : 0 < bs.length := by cases bs with | nil => exact absurd rfl h0 | cons => simp
        refine WL.append 1 rfl rfl rfl (Rd.imm h4) (by simp) (by simp [Value.oneCell']) (by rfl) (by decide) hlen (by omega) (by unfold maxLen; omega) rfl ?_
        intro g2 cap2
        refine WL.nSet ?_
        refine WL.val (Val.assignS rfl) rfl ?_
        refine WL.nil ?_
        refine WX.thenC ?_
        refine WC.ret ?_
        refine WX.freeze 1 rfl fun I' hI hA => ?_
        apply WX.doneP (ks := [])
        case hres => exact RunRes.r1 rfl (ResIs.tmpS rfl)
        case hI => first | exact Mem.le.refl _ | assumption
        refine ⟨rfl, ?_⟩
        have hA' : SlAt I' _ (0 + bs.length) (bs.map byt) := hA
        rw [Nat.zero_add] at hA'
        show Byt I' (.slice _ (0 + bs.length) _) bs
        rw [Nat.zero_add]
        exact hA'
/-- frame.NewIn, code.reader -/
theorem newIn_ctr (sv : Value) (bs : Bs) (I : Mem) (hb : Byt I sv bs) (hl : bs.length ≤ 1099511627776) :
    Ctr Tryd.prog 52 [sv] I [] (fun v I' L' => ∃ b sv', v = ptr b ∧ L' = [box b 132 [sv', .bool false]] ∧ Byt I' sv' bs) := by
  refine Ctr.intro Tryd.func52 rfl rfl rfl fun E F => ?_
  refine WC.seq ?_
  refine WC.region ?_
  refine WL.val (Val.assignP rfl) rfl ?_
  refine WL.nil ?_
  refine WX.thenC ?_
  refine WC.seq ?_
  refine WC.region ?_
  refine WL.val Val.move rfl ?_
  refine WL.callP [] rfl rfl (clone_ctr sv bs I hb hl) rfl ?_
  rintro v I1 _ hI ⟨rfl, hB⟩
  obtain ⟨a, cap, rfl, hc⟩ := SlAt.len hB
  refine WL.nApp ?_
  refine WL.val (Val.build (cs := [.slice a bs.length cap, .bool false]) rfl) rfl ?_
  (refine WL.box rfl rfl ?_; intro _)
  refine WL.nApp ?_
  refine WL.val (Val.assignP rfl) rfl ?_
  refine WL.nil ?_
  refine WX.thenC ?_
  refine WC.ret ?_
  apply WX.doneP (ks := [0])
  case hres => exact RunRes.r1 rfl (ResIs.tmpP rfl)
  case hI => first | exact Mem.le.refl _ | assumption
  exact ⟨_, _, rfl, rfl, hB⟩
theorem reader_ctr (sv : Value) (bs : Bs) (I : Mem) (hb : Byt I sv bs) (hl : bs.length ≤ 1099511627776) :
    Ctr Tryd.prog 24 [sv] I [] (fun v I' L' => ∃ c b sv', v = ptr c ∧ L' = [box b 132 [sv', .bool false], box c 103 [ptr b, .bool false]] ∧ Byt I' sv' bs) := by
  refine Ctr.intro Tryd.func24 rfl rfl rfl fun E F => ?_
  refine WC.seq ?_
  refine WC.region ?_
  refine WL.val (Val.assignP rfl) rfl ?_
  refine WL.nil ?_
  refine WX.thenC ?_
  refine WC.seq ?_
  refine WC.region ?_
  refine WL.val Val.move rfl ?_
  refine WL.callP [] rfl rfl (newIn_ctr sv bs I hb hl) rfl ?_
  rintro _ I1 _ hI ⟨b, sv', rfl, rfl, hB⟩
  refine WL.nApp ?_
  refine WL.val (Val.build (cs := [ptr b, .bool false]) rfl) rfl ?_
  (refine WL.box rfl rfl ?_; intro _)
  refine WL.nApp ?_
  refine WL.val (Val.assignP rfl) rfl ?_
  refine WL.nil ?_
  refine WX.thenC ?_
  refine WC.ret ?_
  apply WX.doneP (ks := [0, 0])
  case hres => exact RunRes.r1 rfl (ResIs.tmpP rfl)
  case hI => first | exact Mem.le.refl _ | assumption
  exact ⟨_, b, sv', rfl, rfl, hB⟩
theorem bad_ctr (b : Nat) (sv : Value) (bd : Bool) (I : Mem) :
    Ctr Tryd.prog 89 [ptr b] I [box b 132 [sv, .bool bd]] (fun v I' L' => I' = I ∧ v = .bool bd ∧ L' = [box b 132 [sv, .bool bd]]) := by
  refine Ctr.intro Tryd.func89 rfl rfl rfl fun E F => ?_
  refine WC.seq ?_
  refine WC.region ?_
  refine WL.val (Val.assignB rfl) rfl ?_
  refine WL.nil ?_
  refine WX.thenC ?_
  refine WC.seq ?_
  refine WC.region ?_
  refine WL.val (Val.moveP rfl) rfl ?_
  refine WL.val (Val.nilCheckP rfl) rfl ?_
  refine WL.val (Val.fldAddr rfl) rfl ?_
  refine WL.val (Val.loadS rfl (Rd.own1 1 rfl rfl)) rfl ?_
  refine WL.val (Val.assignB rfl) rfl ?_
  refine WL.nil ?_
  refine WX.thenC ?_
  refine WC.ret ?_
  apply WX.doneP (ks := [0])
  case hres => exact RunRes.r1 rfl (ResIs.tmpB rfl)
  case hI => first | exact Mem.le.refl _ | assumption
  exact ⟨rfl, rfl, rfl⟩
theorem fdone_ctr (b : Nat) (sv : Value) (bd : Bool) (bs : Bs) (I : Mem) (hb : Byt I sv bs) :
    Ctr Tryd.prog 61 [ptr b] I [box b 132 [sv, .bool bd]] (fun v I' L' => I' = I ∧ v = .bool (decide (st bd false bs = some [])) ∧ L' = [box b 132 [sv, .bool bd]]) := by
  obtain ⟨a, cap, rfl, hc⟩ := SlAt.len hb
  refine Ctr.intro Tryd.func61 rfl rfl rfl fun E F => ?_
  cases bd
  · skip
    refine WC.seq ?_
    refine WC.region ?_
    refine WL.val (Val.assignB rfl) rfl ?_
    refine WL.nil ?_
    refine WX.thenC ?_
    refine WC.seq ?_
    refine WC.region ?_
    refine WL.val (Val.moveP rfl) rfl ?_
    refine WL.val (Val.nilCheckP rfl) rfl ?_
    refine WL.val (Val.fldAddr rfl) rfl ?_
    refine WL.val (Val.loadS rfl (Rd.own1 1 rfl rfl)) rfl ?_
    refine WL.val (Val.not rfl) rfl ?_
    refine WL.val (Val.moveB rfl) rfl ?_
    refine WL.gT rfl rfl ?_
    refine WL.val (Val.moveP rfl) rfl ?_
    refine WL.gT rfl rfl ?_
    refine WL.val (Val.nilCheckP rfl) rfl ?_
    refine WL.gT rfl rfl ?_
    refine WL.val (Val.fldAddr rfl) rfl ?_
    refine WL.gT rfl rfl ?_
    refine WL.val (Val.loadS rfl (Rd.own1 1 rfl rfl)) rfl ?_
    refine WL.gT rfl rfl ?_
    refine WL.val (Val.len rfl) rfl ?_
    refine WL.gT rfl rfl ?_
    refine WL.val (Val.eql rfl rfl rfl) rfl ?_
    refine WL.val (Val.pick rfl) rfl ?_
    refine WL.val (Val.assignB rfl) rfl ?_
    refine WL.nil ?_
    refine WX.thenC ?_
    refine WC.ret ?_
    apply WX.doneP (ks := [0])
    case hres => exact RunRes.r1 rfl (ResIs.tmp rfl)
    case hI => first | exact Mem.le.refl _ | assumption
    refine ⟨rfl, ?_, rfl⟩
    show Value.bool _ = Value.bool _
    congr 1
    cases bs <;> simp [st]
    omega
  · skip
    refine WC.seq ?_
    refine WC.region ?_
    refine WL.val (Val.assignB rfl) rfl ?_
    refine WL.nil ?_
    refine WX.thenC ?_
    refine WC.seq ?_
    refine WC.region ?_
    refine WL.val (Val.moveP rfl) rfl ?_
    refine WL.val (Val.nilCheckP rfl) rfl ?_
    refine WL.val (Val.fldAddr rfl) rfl ?_
    refine WL.val (Val.loadS rfl (Rd.own1 1 rfl rfl)) rfl ?_
    refine WL.val (Val.not rfl) rfl ?_
    refine WL.val (Val.moveB rfl) rfl ?_
    refine WL.gF rfl rfl rfl rfl ?_
    refine WL.gF rfl rfl rfl rfl ?_
    refine WL.gF rfl rfl rfl rfl ?_
    refine WL.gF rfl rfl rfl rfl ?_
    refine WL.gF rfl rfl rfl rfl ?_
    refine WL.gF rfl rfl rfl rfl ?_
    refine WL.val (Val.pick rfl) rfl ?_
    refine WL.val (Val.assignB rfl) rfl ?_
    refine WL.nil ?_
    refine WX.thenC ?_
    refine WC.ret ?_
    apply WX.doneP (ks := [0])
    case hres => exact RunRes.r1 rfl (ResIs.tmpB rfl)
    case hI => first | exact Mem.le.refl _ | assumption
    exact ⟨rfl, by simp [st], rfl⟩
/-- A reader: the thing itself (c), what it reads (b). -/
abbrev inL (c b : Nat) (sv : Value) (b2 b1 : Bool) : List HP := [box c 103 [ptr b, .bool b2], box b 132 [sv, .bool b1]]
theorem over_ctr (c b : Nat) (sv : Value) (b2 b1 : Bool) (I : Mem) :
    Ctr Tryd.prog 77 [ptr c] I (inL c b sv b2 b1) (fun v I' L' => I' = I ∧ v = .bool (b1 || b2) ∧ L' = inL c b sv b2 b1) := by
  refine Ctr.intro Tryd.func77 rfl rfl rfl fun E F => ?_
  cases b2
  · skip
    refine WC.seq ?_
    refine WC.region ?_
    refine WL.val (Val.assignB rfl) rfl ?_
    refine WL.nil ?_
    refine WX.thenC ?_
    refine WC.seq ?_
    refine WC.region ?_
    refine WL.val (Val.moveP rfl) rfl ?_
    refine WL.val (Val.nilCheckP rfl) rfl ?_
    refine WL.val (Val.fldAddr rfl) rfl ?_
    refine WL.val (Val.loadS rfl (Rd.own1 1 rfl rfl)) rfl ?_
    refine WL.val (Val.moveB rfl) rfl ?_
    refine WL.gT rfl rfl ?_
    refine WL.val (Val.moveP rfl) rfl ?_
    refine WL.gT rfl rfl ?_
    refine WL.val (Val.nilCheckP rfl) rfl ?_
    refine WL.gT rfl rfl ?_
    refine WL.val (Val.fldAddr rfl) rfl ?_
    refine WL.gT rfl rfl ?_
    refine WL.val (Val.loadS rfl (Rd.own1 1 rfl rfl)) rfl ?_
    refine WL.gT rfl rfl ?_
    refine WL.callP [2] rfl rfl (bad_ctr b sv b1 I) rfl ?_
    rintro _ _ _ - ⟨rfl, rfl, rfl⟩
    refine WL.nApp ?_
    refine WL.val (Val.pick rfl) rfl ?_
    refine WL.val (Val.assignB rfl) rfl ?_
    refine WL.nil ?_
    refine WX.thenC ?_
    refine WC.ret ?_
    apply WX.doneP (ks := [0, 0])
    case hres => exact RunRes.r1 rfl (ResIs.tmp rfl)
    case hI => first | exact Mem.le.refl _ | assumption
    exact ⟨rfl, show Value.bool b1 = Value.bool (b1 || false) by simp, rfl⟩
  · skip
    refine WC.seq ?_
    refine WC.region ?_
    refine WL.val (Val.assignB rfl) rfl ?_
    refine WL.nil ?_
    refine WX.thenC ?_
    refine WC.seq ?_
    refine WC.region ?_
    refine WL.val (Val.moveP rfl) rfl ?_
    refine WL.val (Val.nilCheckP rfl) rfl ?_
    refine WL.val (Val.fldAddr rfl) rfl ?_
    refine WL.val (Val.loadS rfl (Rd.own1 1 rfl rfl)) rfl ?_
    refine WL.val (Val.moveB rfl) rfl ?_
    refine WL.gF rfl rfl rfl rfl ?_
    refine WL.gF rfl rfl rfl rfl ?_
    refine WL.gF rfl rfl rfl rfl ?_
    refine WL.gF rfl rfl rfl rfl ?_
    refine WL.gF rfl rfl rfl rfl ?_
    refine WL.val (Val.pick rfl) rfl ?_
    refine WL.val (Val.assignB rfl) rfl ?_
    refine WL.nil ?_
    refine WX.thenC ?_
    refine WC.ret ?_
    apply WX.doneP (ks := [0, 0])
    case hres => exact RunRes.r1 rfl (ResIs.tmpB rfl)
    case hI => first | exact Mem.le.refl _ | assumption
    exact ⟨rfl, by simp, rfl⟩
theorem done_ctr (c b : Nat) (sv : Value) (b2 b1 : Bool) (bs : Bs) (I : Mem) (hb : Byt I sv bs) :
    Ctr Tryd.prog 26 [ptr c] I (inL c b sv b2 b1) (fun v I' L' => I' = I ∧ v = .bool (decide (st b1 b2 bs = some [])) ∧ L' = inL c b sv b2 b1) := by
  refine Ctr.intro Tryd.func26 rfl rfl rfl fun E F => ?_
  cases b2
  · skip
    refine WC.seq ?_
    refine WC.region ?_
    refine WL.val (Val.assignB rfl) rfl ?_
    refine WL.nil ?_
    refine WX.thenC ?_
    refine WC.seq ?_
    refine WC.region ?_
    refine WL.val (Val.moveP rfl) rfl ?_
    refine WL.val (Val.nilCheckP rfl) rfl ?_
    refine WL.val (Val.fldAddr rfl) rfl ?_
    refine WL.val (Val.loadS rfl (Rd.own1 1 rfl rfl)) rfl ?_
    refine WL.val (Val.not rfl) rfl ?_
    refine WL.val (Val.moveB rfl) rfl ?_
    refine WL.gT rfl rfl ?_
    refine WL.val (Val.moveP rfl) rfl ?_
    refine WL.gT rfl rfl ?_
    refine WL.val (Val.nilCheckP rfl) rfl ?_
    refine WL.gT rfl rfl ?_
    refine WL.val (Val.fldAddr rfl) rfl ?_
    refine WL.gT rfl rfl ?_
    refine WL.val (Val.loadS rfl (Rd.own1 1 rfl rfl)) rfl ?_
    refine WL.gT rfl rfl ?_
    refine WL.callP [2] rfl rfl (fdone_ctr b sv b1 bs I hb) rfl ?_
    rintro _ _ _ - ⟨rfl, rfl, rfl⟩
    refine WL.nApp ?_
    refine WL.val (Val.pick rfl) rfl ?_
    refine WL.val (Val.assignB rfl) rfl ?_
    refine WL.nil ?_
    refine WX.thenC ?_
    refine WC.ret ?_
    apply WX.doneP (ks := [0, 0])
    case hres => exact RunRes.r1 rfl (ResIs.tmp rfl)
    case hI => first | exact Mem.le.refl _ | assumption
    exact ⟨rfl, rfl, rfl⟩
  · skip
    refine WC.seq ?_
    refine WC.region ?_
    refine WL.val (Val.assignB rfl) rfl ?_
    refine WL.nil ?_
    refine WX.thenC ?_
    refine WC.seq ?_
    refine WC.region ?_
    refine WL.val (Val.moveP rfl) rfl ?_
    refine WL.val (Val.nilCheckP rfl) rfl ?_
    refine WL.val (Val.fldAddr rfl) rfl ?_
    refine WL.val (Val.loadS rfl (Rd.own1 1 rfl rfl)) rfl ?_
    refine WL.val (Val.not rfl) rfl ?_
    refine WL.val (Val.moveB rfl) rfl ?_
    refine WL.gF rfl rfl rfl rfl ?_
    refine WL.gF rfl rfl rfl rfl ?_
    refine WL.gF rfl rfl rfl rfl ?_
    refine WL.gF rfl rfl rfl rfl ?_
    refine WL.gF rfl rfl rfl rfl ?_
    refine WL.val (Val.pick rfl) rfl ?_
    refine WL.val (Val.assignB rfl) rfl ?_
    refine WL.nil ?_
    refine WX.thenC ?_
    refine WC.ret ?_
    apply WX.doneP (ks := [0, 0])
    case hres => exact RunRes.r1 rfl (ResIs.tmpB rfl)
    case hI => first | exact Mem.le.refl _ | assumption
    exact ⟨rfl, by simp [st], rfl⟩
theorem fail_ctr (c b : Nat) (sv : Value) (b2 b1 : Bool) (I : Mem) :
    Ctr Tryd.prog 54 [ptr c] I (inL c b sv b2 b1) (fun v I' L' => I' = I ∧ L' = inL c b sv true b1) := by
  refine Ctr.intro Tryd.func54 rfl rfl rfl fun E F => ?_
  refine WC.region ?_
  refine WL.val (Val.moveP rfl) rfl ?_
  refine WL.val (Val.nilCheckP rfl) rfl ?_
  refine WL.val (Val.fldAddr rfl) rfl ?_
  refine WL.stB 1 rfl rfl rfl rfl ?_
  refine WL.nil ?_
  apply WX.doneN (ks := [0, 0])
  case hres => exact RunRes.r0 rfl
  case hp => rfl
  case hI => first | exact Mem.le.refl _ | assumption
  exact ⟨rfl, rfl⟩
def NeedAt (I : Mem) : Prop := At I 0 0 [vi 0, vi 1, vi 1, vi 2, vi 3, vi 0]
theorem NeedAt.mono {I I' : Mem} (h : NeedAt I) (hI : I.le I') : NeedAt I' := At.mono h hI
theorem need_ctr (k : Int) (I : Mem) (hN : NeedAt I) : Ctr Tryd.prog 65 [vi k] I [] (Still I fun v => v = vi (need k)) := by
  refine Ctr.intro Tryd.func65 rfl rfl rfl fun E F => ?_
  by_cases h1 : k < 1
  · skip
    refine WC.seq ?_
    refine WC.region ?_
    refine WL.val (Val.assignI rfl) rfl ?_
    refine WL.nil ?_
    refine WX.thenC ?_
    refine WC.seq ?_
    refine WC.seq ?_
    refine WC.region ?_
    refine WL.val (Val.moveI rfl) rfl ?_
    refine WL.val (Val.lss rfl rfl (decide_eq_true (by omega))) rfl ?_
    refine WL.val (Val.moveB rfl) rfl ?_
    refine WL.gF rfl rfl rfl rfl ?_
    refine WL.gF rfl rfl rfl rfl ?_
    refine WL.val (Val.pick rfl) rfl ?_
    refine WL.nil ?_
    refine WX.thenC ?_
    refine WC.condT rfl ?_
    refine WC.seq ?_
    refine WC.region ?_
    refine WL.val (Val.assignI rfl) rfl ?_
    refine WL.nil ?_
    refine WX.thenC ?_
    refine WC.ret ?_
    refine WX.thenRet ?_
    apply WX.doneP (ks := [])
    case hres => exact RunRes.r1 rfl (ResIs.tmpI rfl)
    case hI => first | exact Mem.le.refl _ | assumption
    refine ⟨rfl, rfl, ?_⟩
    unfold need
    rw [if_neg (by omega), if_neg (by omega), if_neg (by omega)]
    rfl
  by_cases h2 : k > 5
  · skip
    refine WC.seq ?_
    refine WC.region ?_
    refine WL.val (Val.assignI rfl) rfl ?_
    refine WL.nil ?_
    refine WX.thenC ?_
    refine WC.seq ?_
    refine WC.seq ?_
    refine WC.region ?_
    refine WL.val (Val.moveI rfl) rfl ?_
    refine WL.val (Val.lss rfl rfl (decide_eq_false (by omega))) rfl ?_
    refine WL.val (Val.moveB rfl) rfl ?_
    refine WL.gT rfl rfl ?_
    refine WL.val (Val.moveI rfl) rfl ?_
    refine WL.gT rfl rfl ?_
    refine WL.val (Val.gtr rfl rfl (decide_eq_true (by omega))) rfl ?_
    refine WL.val (Val.pick rfl) rfl ?_
    refine WL.nil ?_
    refine WX.thenC ?_
    refine WC.condT rfl ?_
    refine WC.seq ?_
    refine WC.region ?_
    refine WL.val (Val.assignI rfl) rfl ?_
    refine WL.nil ?_
    refine WX.thenC ?_
    refine WC.ret ?_
    refine WX.thenRet ?_
    apply WX.doneP (ks := [])
    case hres => exact RunRes.r1 rfl (ResIs.tmpI rfl)
    case hI => first | exact Mem.le.refl _ | assumption
    refine ⟨rfl, rfl, ?_⟩
    unfold need
    rw [if_neg (by omega), if_neg (by omega), if_neg (by omega)]
    rfl
  have hk : k = 1 ∨ k = 2 ∨ k = 3 ∨ k = 4 ∨ k = 5 := by omega
  have hN' : At I 0 0 [vi 0, vi 1, vi 1, vi 2, vi 3, vi 0] := hN
  rcases hk with rfl | rfl | rfl | rfl | rfl
  · skip
    refine WC.seq ?_
    refine WC.region ?_
    refine WL.val (Val.assignI rfl) rfl ?_
    refine WL.nil ?_
    refine WX.thenC ?_
    refine WC.seq ?_
    refine WC.seq ?_
    refine WC.region ?_
    refine WL.val (Val.moveI rfl) rfl ?_
    refine WL.val (Val.lss rfl rfl (decide_eq_false (by omega))) rfl ?_
    refine WL.val (Val.moveB rfl) rfl ?_
    refine WL.gT rfl rfl ?_
    refine WL.val (Val.moveI rfl) rfl ?_
    refine WL.gT rfl rfl ?_
    refine WL.val (Val.gtr rfl rfl (decide_eq_false (by omega))) rfl ?_
    refine WL.val (Val.pick rfl) rfl ?_
    refine WL.nil ?_
    refine WX.thenC ?_
    refine WC.condF rfl ?_
    refine WC.skip ?_
    refine WX.thenC ?_
    refine WC.seq ?_
    refine WC.region ?_
    refine WL.val (Val.moveI rfl) rfl ?_
    refine WL.val (Val.indexAddrA rfl rfl (by omega) (by omega)) rfl ?_
    refine WL.val (Val.loadS rfl (Rd.imm (At.one (by assumption) rfl))) rfl ?_
    refine WL.val (Val.assignI rfl) rfl ?_
    refine WL.nil ?_
    refine WX.thenC ?_
    refine WC.ret ?_
    apply WX.doneP (ks := [])
    case hres => exact RunRes.r1 rfl (ResIs.tmpI rfl)
    case hI => first | exact Mem.le.refl _ | assumption
    exact ⟨rfl, rfl, rfl⟩
  · skip
    refine WC.seq ?_
    refine WC.region ?_
    refine WL.val (Val.assignI rfl) rfl ?_
    refine WL.nil ?_
    refine WX.thenC ?_
    refine WC.seq ?_
    refine WC.seq ?_
    refine WC.region ?_
    refine WL.val (Val.moveI rfl) rfl ?_
    refine WL.val (Val.lss rfl rfl (decide_eq_false (by omega))) rfl ?_
    refine WL.val (Val.moveB rfl) rfl ?_
    refine WL.gT rfl rfl ?_
    refine WL.val (Val.moveI rfl) rfl ?_
    refine WL.gT rfl rfl ?_
    refine WL.val (Val.gtr rfl rfl (decide_eq_false (by omega))) rfl ?_
    refine WL.val (Val.pick rfl) rfl ?_
    refine WL.nil ?_
    refine WX.thenC ?_
    refine WC.condF rfl ?_
    refine WC.skip ?_
    refine WX.thenC ?_
    refine WC.seq ?_
    refine WC.region ?_
    refine WL.val (Val.moveI rfl) rfl ?_
    refine WL.val (Val.indexAddrA rfl rfl (by omega) (by omega)) rfl ?_
    refine WL.val (Val.loadS rfl (Rd.imm (At.one (by assumption) rfl))) rfl ?_
    refine WL.val (Val.assignI rfl) rfl ?_
    refine WL.nil ?_
    refine WX.thenC ?_
    refine WC.ret ?_
    apply WX.doneP (ks := [])
    case hres => exact RunRes.r1 rfl (ResIs.tmpI rfl)
    case hI => first | exact Mem.le.refl _ | assumption
    exact ⟨rfl, rfl, rfl⟩
  · skip
    refine WC.seq ?_
    refine WC.region ?_
    refine WL.val (Val.assignI rfl) rfl ?_
    refine WL.nil ?_
    refine WX.thenC ?_
    refine WC.seq ?_
    refine WC.seq ?_
    refine WC.region ?_
    refine WL.val (Val.moveI rfl) rfl ?_
    refine WL.val (Val.lss rfl rfl (decide_eq_false (by omega))) rfl ?_
    refine WL.val (Val.moveB rfl) rfl ?_
    refine WL.gT rfl rfl ?_
    refine WL.val (Val.moveI rfl) rfl ?_
    refine WL.gT rfl rfl ?_
    refine WL.val (Val.gtr rfl rfl (decide_eq_false (by omega))) rfl ?_
    refine WL.val (Val.pick rfl) rfl ?_
    refine WL.nil ?_
    refine WX.thenC ?_
    refine WC.condF rfl ?_
    refine WC.skip ?_
    refine WX.thenC ?_
    refine WC.seq ?_
    refine WC.region ?_
    refine WL.val (Val.moveI rfl) rfl ?_
    refine WL.val (Val.indexAddrA rfl rfl (by omega) (by omega)) rfl ?_
    refine WL.val (Val.loadS rfl (Rd.imm (At.one (by assumption) rfl))) rfl ?_
    refine WL.val (Val.assignI rfl) rfl ?_
    refine WL.nil ?_
    refine WX.thenC ?_
    refine WC.ret ?_
    apply WX.doneP (ks := [])
    case hres => exact RunRes.r1 rfl (ResIs.tmpI rfl)
    case hI => first | exact Mem.le.refl _ | assumption
    exact ⟨rfl, rfl, rfl⟩
  · skip
    refine WC.seq ?_
    refine WC.region ?_
    refine WL.val (Val.assignI rfl) rfl ?_
    refine WL.nil ?_
    refine WX.thenC ?_
    refine WC.seq ?_
    refine WC.seq ?_
    refine WC.region ?_
    refine WL.val (Val.moveI rfl) rfl ?_
    refine WL.val (Val.lss rfl rfl (decide_eq_false (by omega))) rfl ?_
    refine WL.val (Val.moveB rfl) rfl ?_
    refine WL.gT rfl rfl ?_
    refine WL.val (Val.moveI rfl) rfl ?_
    refine WL.gT rfl rfl ?_
    refine WL.val (Val.gtr rfl rfl (decide_eq_false (by omega))) rfl ?_
    refine WL.val (Val.pick rfl) rfl ?_
    refine WL.nil ?_
    refine WX.thenC ?_
    refine WC.condF rfl ?_
    refine WC.skip ?_
    refine WX.thenC ?_
    refine WC.seq ?_
    refine WC.region ?_
    refine WL.val (Val.moveI rfl) rfl ?_
    refine WL.val (Val.indexAddrA rfl rfl (by omega) (by omega)) rfl ?_
    refine WL.val (Val.loadS rfl (Rd.imm (At.one (by assumption) rfl))) rfl ?_
    refine WL.val (Val.assignI rfl) rfl ?_
    refine WL.nil ?_
    refine WX.thenC ?_
    refine WC.ret ?_
    apply WX.doneP (ks := [])
    case hres => exact RunRes.r1 rfl (ResIs.tmpI rfl)
    case hI => first | exact Mem.le.refl _ | assumption
    exact ⟨rfl, rfl, rfl⟩
  · skip
    refine WC.seq ?_
    refine WC.region ?_
    refine WL.val (Val.assignI rfl) rfl ?_
    refine WL.nil ?_
    refine WX.thenC ?_
    refine WC.seq ?_
    refine WC.seq ?_
    refine WC.region ?_
    refine WL.val (Val.moveI rfl) rfl ?_
    refine WL.val (Val.lss rfl rfl (decide_eq_false (by omega))) rfl ?_
    refine WL.val (Val.moveB rfl) rfl ?_
    refine WL.gT rfl rfl ?_
    refine WL.val (Val.moveI rfl) rfl ?_
    refine WL.gT rfl rfl ?_
    refine WL.val (Val.gtr rfl rfl (decide_eq_false (by omega))) rfl ?_
    refine WL.val (Val.pick rfl) rfl ?_
    refine WL.nil ?_
    refine WX.thenC ?_
    refine WC.condF rfl ?_
    refine WC.skip ?_
    refine WX.thenC ?_
    refine WC.seq ?_
    refine WC.region ?_
    refine WL.val (Val.moveI rfl) rfl ?_
    refine WL.val (Val.indexAddrA rfl rfl (by omega) (by omega)) rfl ?_
    refine WL.val (Val.loadS rfl (Rd.imm (At.one (by assumption) rfl))) rfl ?_
    refine WL.val (Val.assignI rfl) rfl ?_
    refine WL.nil ?_
    refine WX.thenC ?_
    refine WC.ret ?_
    apply WX.doneP (ks := [])
    case hres => exact RunRes.r1 rfl (ResIs.tmpI rfl)
    case hI => first | exact Mem.le.refl _ | assumption
    exact ⟨rfl, rfl, rfl⟩
/-- What a reader (c, b) answers. -/
def RdP {α : Type} (V : List Value → Value) (R : Rep α) (w : α → Bs) (ok : α → Prop) (c b : Nat) (s : Option Bs) : Value → Mem → List HP → Prop := fun v I' L' =>
  ∃ x vs sv' b2' b1' bs', v = V vs ∧ R I' x vs ∧ L' = inL c b sv' b2' b1' ∧ Byt I' sv' bs' ∧ Reads w ok s x (st b1' b2' bs')
abbrev agg (vs : List Value) : Value := .agg vs.toArray
theorem point_ctr (c b : Nat) (sv : Value) (b2 b1 : Bool) (bs : Bs) (I : Mem) (hb : Byt I sv bs) :
    Ctr Tryd.prog 60 [ptr c] I (inL c b sv b2 b1) (RdP agg Pt.rep Pt.w Pt.ok c b (st b1 b2 bs)) := by
  refine Ctr.intro Tryd.func60 rfl rfl rfl fun E F => ?_
  refine WC.seq ?_
  refine WC.region ?_
  (refine WL.alloc rfl ?_; intro _)
  refine WL.nApp ?_
  refine WL.nil ?_
  refine WX.thenC ?_
  refine WC.seq ?_
  refine WC.region ?_
  refine WL.val (Val.moveP rfl) rfl ?_
  refine WL.val (Val.nilCheckP rfl) rfl ?_
  refine WL.val (Val.fldAddr rfl) rfl ?_
  refine WL.val (Val.loadS rfl (Rd.own1 1 rfl rfl)) rfl ?_
  refine WL.callP [2] rfl rfl (inInt b sv b1 bs I hb) rfl ?_
  rintro _ _ _ - ⟨rfl, n1, sv1, c1, bs1, rfl, hn1, rfl, hB1, hR1⟩
  refine WL.nApp ?_
  refine WL.val (Val.assignI rfl) rfl ?_
  refine WL.nil ?_
  refine WX.thenC ?_
  refine WC.seq ?_
  refine WC.region ?_
  refine WL.val (Val.moveI rfl) rfl ?_
  refine WL.val (Val.moveP rfl) rfl ?_
  refine WL.val (Val.nilCheckP rfl) rfl ?_
  refine WL.val (Val.fldAddr rfl) rfl ?_
  refine WL.val (Val.loadS rfl (Rd.own1 1 rfl rfl)) rfl ?_
  refine WL.callP [3] rfl rfl (inInt b sv1 c1 bs1 _ hB1) rfl ?_
  rintro _ _ _ - ⟨rfl, n2, sv2, c2, bs2, rfl, hn2, rfl, hB2, hR2⟩
  refine WL.nApp ?_
  refine WL.val (Val.build (cs := [vi n1, vi n2]) rfl) rfl ?_
  refine WL.stA 2 rfl rfl rfl rfl ?_
  refine WL.nil ?_
  refine WX.thenC ?_
  refine WC.ret ?_
  apply WX.doneP (ks := [0, 1])
  case hres => exact RunRes.r1 rfl (ResIs.cellL 2 rfl rfl rfl)
  case hI => first | exact Mem.le.refl _ | assumption
  refine ⟨⟨n1, n2⟩, _, sv2, b2, c2, bs2, rfl, ⟨rfl, hn1, hn2⟩, rfl, hB2, (hR1.lift b2).pair (hR2.lift b2) Pt.x Pt.y (fun p hp => ⟨rfl, hp.1, hp.2⟩) (fun _ _ => ⟨⟨hn1, hn2⟩, rfl, rfl⟩) ?_⟩
  rintro ⟨x, y⟩ _ rfl rfl
  rfl
end Go.Proofs.YtfdeckdongonnaaDoor
