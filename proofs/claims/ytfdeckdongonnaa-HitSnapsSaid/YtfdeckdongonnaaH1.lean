import Derived.Test.YtfdeckdongonnaaFacts
import Derived.Shelf.Spec.BitsCarry
namespace Go.Proofs.Ytfdeckdongonnaa
open Go.Sl
set_option maxRecDepth 100000
set_option linter.unusedVariables false
attribute [local irreducible] WC WL WX WK WA WAK Val Ctr RunRes ResIs Rd At sl box pt Exit.then Exit.inBlock bodyPost Code.wp wpList

theorem tup2 {k k' : IntKind} {a b c d : Int} (h : a = c) (h' : b = d) : Value.tuple #[.int k a, .int k' b] = .tuple #[.int k c, .int k' d] := by rw [h, h']
theorem agg2 {k k' : IntKind} {a b c d : Int} (h : a = c) (h' : b = d) : Value.agg #[.int k a, .int k' b] = .agg #[.int k c, .int k' d] := by rw [h, h']
/-- The product of 1 and a number. -/
theorem mul64 (y : Int) (I : Mem) (h0 : 0 ≤ y) (h1 : y ≤ 18446744073709551615) :
    Ctr Try.prog 15 [.int .u64 1, .int .u64 y] I [] (Still I fun v => v = .tuple #[.int .u64 0, .int .u64 y]) := by
  refine Ctr.intro Try.func15 rfl rfl rfl fun E F => ?_
  refine WC.seq ?_
  refine WC.region ?_
  refine WL.val (Val.assignI rfl) rfl ?_
  refine WL.val (Val.assignI rfl) rfl ?_
  refine WL.nil ?_
  refine WX.thenC ?_
  refine WC.seq ?_
  refine WC.region ?_
  refine WL.val (Val.moveI rfl) rfl ?_
  refine WL.val (Val.and rfl rfl (and_mask32 _ (by omega) (by omega))) rfl ?_
  refine WL.val (Val.assignI rfl) rfl ?_
  refine WL.nil ?_
  refine WX.thenC ?_
  refine WC.seq ?_
  refine WC.region ?_
  refine WL.val (Val.moveI rfl) rfl ?_
  refine WL.val (Val.shr rfl rfl (by decide) (shr_u64 4294967296 rfl (by decide))) rfl ?_
  refine WL.val (Val.assignI rfl) rfl ?_
  refine WL.nil ?_
  refine WX.thenC ?_
  refine WC.seq ?_
  refine WC.region ?_
  refine WL.val (Val.moveI rfl) rfl ?_
  refine WL.val (Val.and rfl rfl (and_mask32 _ (by omega) (by omega))) rfl ?_
  refine WL.val (Val.assignI rfl) rfl ?_
  refine WL.nil ?_
  refine WX.thenC ?_
  refine WC.seq ?_
  refine WC.region ?_
  refine WL.val (Val.moveI rfl) rfl ?_
  refine WL.val (Val.shr rfl rfl (by decide) (shr_u64 4294967296 rfl (by decide))) rfl ?_
  refine WL.val (Val.assignI rfl) rfl ?_
  refine WL.nil ?_
  refine WX.thenC ?_
  refine WC.seq ?_
  refine WC.region ?_
  refine WL.val (Val.moveI rfl) rfl ?_
  refine WL.val (Val.moveI rfl) rfl ?_
  refine WL.val (Val.mul rfl rfl (wrap_u64 (by omega) (by omega))) rfl ?_
  refine WL.val (Val.assignI rfl) rfl ?_
  refine WL.nil ?_
  refine WX.thenC ?_
  refine WC.seq ?_
  refine WC.region ?_
  refine WL.val (Val.moveI rfl) rfl ?_
  refine WL.val (Val.moveI rfl) rfl ?_
  refine WL.val (Val.mul rfl rfl (wrap_u64 (by omega) (by omega))) rfl ?_
  refine WL.val (Val.moveI rfl) rfl ?_
  refine WL.val (Val.shr rfl rfl (by decide) (shr_u64 4294967296 rfl (by decide))) rfl ?_
  refine WL.val (Val.add rfl rfl (wrap_u64 (by omega) (by omega))) rfl ?_
  refine WL.val (Val.assignI rfl) rfl ?_
  refine WL.nil ?_
  refine WX.thenC ?_
  refine WC.seq ?_
  refine WC.region ?_
  refine WL.val (Val.moveI rfl) rfl ?_
  refine WL.val (Val.and rfl rfl (and_mask32 _ (by omega) (by omega))) rfl ?_
  refine WL.val (Val.assignI rfl) rfl ?_
  refine WL.nil ?_
  refine WX.thenC ?_
  refine WC.seq ?_
  refine WC.region ?_
  refine WL.val (Val.moveI rfl) rfl ?_
  refine WL.val (Val.shr rfl rfl (by decide) (shr_u64 4294967296 rfl (by decide))) rfl ?_
  refine WL.val (Val.assignI rfl) rfl ?_
  refine WL.nil ?_
  refine WX.thenC ?_
  refine WC.seq ?_
  refine WC.region ?_
  refine WL.val (Val.moveI rfl) rfl ?_
  refine WL.val (Val.moveI rfl) rfl ?_
  refine WL.val (Val.moveI rfl) rfl ?_
  refine WL.val (Val.mul rfl rfl (wrap_u64 (by omega) (by omega))) rfl ?_
  refine WL.val (Val.add rfl rfl (wrap_u64 (by omega) (by omega))) rfl ?_
  refine WL.val (Val.assignI rfl) rfl ?_
  refine WL.nil ?_
  refine WX.thenC ?_
  refine WC.seq ?_
  refine WC.region ?_
  refine WL.val (Val.moveI rfl) rfl ?_
  refine WL.val (Val.moveI rfl) rfl ?_
  refine WL.val (Val.mul rfl rfl (wrap_u64 (by omega) (by omega))) rfl ?_
  refine WL.val (Val.moveI rfl) rfl ?_
  refine WL.val (Val.add rfl rfl (wrap_u64 (by omega) (by omega))) rfl ?_
  refine WL.val (Val.moveI rfl) rfl ?_
  refine WL.val (Val.shr rfl rfl (by decide) (shr_u64 4294967296 rfl (by decide))) rfl ?_
  refine WL.val (Val.add rfl rfl (wrap_u64 (by omega) (by omega))) rfl ?_
  refine WL.val (Val.assignI rfl) rfl ?_
  refine WL.nil ?_
  refine WX.thenC ?_
  refine WC.seq ?_
  refine WC.region ?_
  refine WL.val (Val.moveI rfl) rfl ?_
  refine WL.val (Val.moveI rfl) rfl ?_
  refine WL.val (Val.mul rfl rfl (wrap_u64 (by omega) (by omega))) rfl ?_
  refine WL.val (Val.assignI rfl) rfl ?_
  refine WL.nil ?_
  refine WX.thenC ?_
  refine WC.ret ?_
  apply WX.doneR (ks := [])
  case hres => exact RunRes.r2 rfl (ResIs.tmpI rfl) (ResIs.tmpI rfl)
  case hp => rfl
  case hI => first | exact Mem.le.refl _ | assumption
  refine ⟨rfl, rfl, ?_⟩
  have e1 : (1 : Int) / 4294967296 = 0 := by decide
  have e2 : (1 : Int) % 4294967296 = 1 := by decide
  exact tup2 (by rw [e1, e2]; omega) (by omega)
theorem size_ctr (n : Int) (I : Mem) (h0 : -4000000000000 ≤ n) (h1 : n ≤ 4000000000000) :
    Ctr Try.prog 16 [.int .i64 n] I [] (Still I fun v => ∃ m, v = .int .u64 m ∧ 0 ≤ m ∧ m ≤ 4000000000000 ∧ (n < 0 → m = -n) ∧ (¬ n < 0 → m = n)) := by
  refine Ctr.intro Try.func16 rfl rfl rfl fun E F => ?_
  by_cases h : n < 0
  · skip
    refine WC.seq ?_
    refine WC.region ?_
    refine WL.val (Val.assignI rfl) rfl ?_
    refine WL.nil ?_
    refine WX.thenC ?_
    refine WC.seq ?_
    refine WC.seq ?_
    refine WC.region ?_
    refine WL.val (Val.moveI rfl) rfl ?_
    refine WL.val (Val.lss rfl rfl (decide_eq_true (by omega))) rfl ?_
    refine WL.nil ?_
    refine WX.thenC ?_
    refine WC.condT rfl ?_
    refine WC.seq ?_
    refine WC.region ?_
    refine WL.val (Val.moveI rfl) rfl ?_
    refine WL.val (Val.convert rfl rfl) rfl ?_
    refine WL.val (Val.neg rfl rfl) rfl ?_
    refine WL.val (Val.assignI rfl) rfl ?_
    refine WL.nil ?_
    refine WX.thenC ?_
    refine WC.ret ?_
    refine WX.thenRet ?_
    apply WX.doneR (ks := [])
    case hres => exact RunRes.r1 rfl (ResIs.tmpI rfl)
    case hp => rfl
    case hI => first | exact Mem.le.refl _ | assumption
    refine ⟨rfl, rfl, _, rfl, ?_⟩
    rw [wrap_u64_eq, wrap_u64_eq]
    omega
  · skip
    refine WC.seq ?_
    refine WC.region ?_
    refine WL.val (Val.assignI rfl) rfl ?_
    refine WL.nil ?_
    refine WX.thenC ?_
    refine WC.seq ?_
    refine WC.seq ?_
    refine WC.region ?_
    refine WL.val (Val.moveI rfl) rfl ?_
    refine WL.val (Val.lss rfl rfl (decide_eq_false (by omega))) rfl ?_
    refine WL.nil ?_
    refine WX.thenC ?_
    refine WC.condF rfl ?_
    refine WC.skip ?_
    refine WX.thenC ?_
    refine WC.seq ?_
    refine WC.region ?_
    refine WL.val (Val.moveI rfl) rfl ?_
    refine WL.val (Val.convert rfl (wrap_u64 (by omega) (by omega))) rfl ?_
    refine WL.val (Val.assignI rfl) rfl ?_
    refine WL.nil ?_
    refine WX.thenC ?_
    refine WC.ret ?_
    apply WX.doneR (ks := [])
    case hres => exact RunRes.r1 rfl (ResIs.tmpI rfl)
    case hp => rfl
    case hI => first | exact Mem.le.refl _ | assumption
    exact ⟨rfl, rfl, _, rfl, by omega⟩
theorem div64 (lo y : Int) (I : Mem) (h0 : 0 ≤ lo) (h1 : lo ≤ 4000000000000) (h2 : 1 ≤ y) (h3 : y ≤ 4000000000000) :
    Ctr Try.prog 17 [.int .u64 0, .int .u64 lo, .int .u64 y] I [] (Still I fun v => v = .tuple #[.int .u64 (lo / y), .int .u64 (lo % y)]) := by
  have hq : lo.tdiv y = lo / y := Int.tdiv_eq_ediv_of_nonneg h0
  have hr : lo.tmod y = lo % y := Int.tmod_eq_emod_of_nonneg h0
  have b1 : 0 ≤ lo / y := Int.ediv_nonneg h0 (by omega)
  have b2 : lo / y ≤ lo := Int.ediv_le_self _ h0
  refine Ctr.intro Try.func17 rfl rfl rfl fun E F => ?_
  refine WC.seq ?_
  refine WC.region ?_
  refine WL.val (Val.assignI rfl) rfl ?_
  refine WL.val (Val.assignI rfl) rfl ?_
  refine WL.nil ?_
  refine WX.thenC ?_
  refine WC.seq ?_
  refine WC.seq ?_
  refine WC.region ?_
  refine WL.val (Val.moveI rfl) rfl ?_
  refine WL.val (Val.eql rfl rfl (beq_eq_false_iff_ne.2 (by omega))) rfl ?_
  refine WL.nil ?_
  refine WX.thenC ?_
  refine WC.condF rfl ?_
  refine WC.skip ?_
  refine WX.thenC ?_
  refine WC.seq ?_
  refine WC.seq ?_
  refine WC.region ?_
  refine WL.val (Val.moveI rfl) rfl ?_
  refine WL.val (Val.moveI rfl) rfl ?_
  refine WL.val (Val.leq rfl rfl (decide_eq_false (by omega))) rfl ?_
  refine WL.nil ?_
  refine WX.thenC ?_
  refine WC.condF rfl ?_
  refine WC.skip ?_
  refine WX.thenC ?_
  refine WC.seq ?_
  refine WC.seq ?_
  refine WC.region ?_
  refine WL.val (Val.moveI rfl) rfl ?_
  refine WL.val (Val.eql rfl rfl (beq_iff_eq.2 (by omega))) rfl ?_
  refine WL.nil ?_
  refine WX.thenC ?_
  refine WC.condT rfl ?_
  refine WC.seq ?_
  refine WC.draw 99 I [] (by kernel_rfl) rfl rfl ?_
  refine WA.take 0 rfl (by kernel_rfl) rfl (fun w h => h.imp fun m _ => trivial) (Val.moveI rfl) rfl ?_
  refine WA.take 1 rfl (by kernel_rfl) rfl (fun w h => h.imp fun m _ => trivial) (Val.moveI rfl) rfl ?_
  refine WA.take 2 rfl (by kernel_rfl) rfl (fun w h => h.imp fun m _ => trivial) (Val.quo rfl rfl (by omega) (show _ = lo / y by rw [hq, wrap_u64 (by omega) (by omega)])) rfl ?_
  refine WA.take 3 rfl (by kernel_rfl) rfl (fun w h => h.imp fun m _ => trivial) (Val.moveI rfl) rfl ?_
  refine WA.take 4 rfl (by kernel_rfl) rfl (fun w h => h.imp fun m _ => trivial) (Val.moveI rfl) rfl ?_
  refine WA.take 5 rfl (by kernel_rfl) rfl (fun w h => h.imp fun m _ => trivial) (Val.rem rfl rfl (by omega) hr) rfl ?_
  refine WA.take 6 rfl (by kernel_rfl) rfl (fun w h => h.imp fun m _ => trivial) (Val.assignI rfl) rfl ?_
  refine WA.take 7 rfl (by kernel_rfl) rfl (fun w h => h.imp fun m _ => trivial) (Val.assignI rfl) rfl ?_
  refine WA.done (by kernel_rfl) ?_
  refine WX.thenC ?_
  refine WC.ret ?_
  refine WX.thenRet ?_
  apply WX.doneR (ks := [])
  case hres => exact RunRes.r2 rfl (ResIs.tmpI rfl) (ResIs.tmpI rfl)
  case hp => rfl
  case hI => first | exact Mem.le.refl _ | assumption
  exact ⟨rfl, rfl, rfl⟩
theorem of_ctr (n : Int) (I : Mem) (h0 : -4000000000000 ≤ n) (h1 : n ≤ 4000000000000) :
    Ctr Try.prog 19 [.int .i64 n] I [] (Still I fun v => v = .agg #[.int .i64 (n / 9223372036854775808), .int .u64 (n % 18446744073709551616)]) := by
  refine Ctr.intro Try.func19 rfl rfl rfl fun E F => ?_
  refine WC.seq ?_
  refine WC.region ?_
  (refine WL.alloc rfl ?_; intro _)
  refine WL.nil ?_
  refine WX.thenC ?_
  refine WC.seq ?_
  refine WC.region ?_
  refine WL.val (Val.moveI rfl) rfl ?_
  refine WL.val (Val.shr rfl rfl (by decide) (shr_i64 9223372036854775808 rfl (by decide))) rfl ?_
  refine WL.val (Val.moveI rfl) rfl ?_
  refine WL.val (Val.convert rfl rfl) rfl ?_
  refine WL.val (Val.build rfl) rfl ?_
  refine WL.store 1 rfl rfl rfl ?_
  refine WL.nil ?_
  refine WX.thenC ?_
  refine WC.ret ?_
  apply WX.doneR (ks := [])
  case hres => exact RunRes.r1 rfl (ResIs.cellO 1 rfl rfl rfl)
  case hp => rfl
  case hI => first | exact Mem.le.refl _ | assumption
  refine ⟨rfl, rfl, ?_⟩
  show Value.agg #[.int .i64 _, .int .u64 _] = _
  rw [wrap_u64_eq]
theorem add_ctr (q : Int) (I : Mem) (h0 : 0 ≤ q) (h1 : q ≤ 4000000000000) :
    Ctr Try.prog 18 [.agg #[.int .i64 0, .int .u64 q], .agg #[.int .i64 0, .int .u64 1]] I [] (Still I fun v => v = .agg #[.int .i64 0, .int .u64 (q + 1)]) := by
  refine Ctr.intro Try.func18 rfl rfl rfl fun E F => ?_
  refine WC.seq ?_
  refine WC.region ?_
  (refine WL.box rfl rfl ?_; intro _)
  (refine WL.box rfl rfl ?_; intro _)
  (refine WL.alloc rfl ?_; intro _)
  refine WL.nil ?_
  refine WX.thenC ?_
  refine WC.seq ?_
  refine WC.region ?_
  refine WL.val (Val.fieldAddr rfl) rfl ?_
  refine WL.val (Val.loadS rfl (Rd.own1 1 rfl rfl)) rfl ?_
  refine WL.val (Val.fieldAddr rfl) rfl ?_
  refine WL.val (Val.loadS rfl (Rd.own1 2 rfl rfl)) rfl ?_
  refine WL.val (Val.ext Try.func23 (by kernel_rfl) (by kernel_rfl) (by kernel_rfl) (e := add64Entry) (by kernel_rfl) rfl rfl (fun w => run_add64 q 1 0 (by omega) (by omega) (by omega) (by omega) w)) rfl ?_
  rw [show (q + 1 + 0) % 18446744073709551616 = q + 1 by omega, show (q + 1 + 0) / 18446744073709551616 = 0 by omega]
  refine WL.val (Val.moveT rfl) rfl ?_
  refine WL.val (Val.extractI rfl rfl) rfl ?_
  refine WL.val (Val.extractI rfl rfl) rfl ?_
  refine WL.val (Val.assignI rfl) rfl ?_
  refine WL.val (Val.assignI rfl) rfl ?_
  refine WL.nil ?_
  refine WX.thenC ?_
  refine WC.seq ?_
  refine WC.region ?_
  refine WL.val (Val.fieldAddr rfl) rfl ?_
  refine WL.val (Val.loadS rfl (Rd.own1 1 rfl rfl)) rfl ?_
  refine WL.val (Val.convert rfl (wrap_u64 (by omega) (by omega))) rfl ?_
  refine WL.val (Val.fieldAddr rfl) rfl ?_
  refine WL.val (Val.loadS rfl (Rd.own1 2 rfl rfl)) rfl ?_
  refine WL.val (Val.convert rfl (wrap_u64 (by omega) (by omega))) rfl ?_
  refine WL.val (Val.moveI rfl) rfl ?_
  refine WL.val (Val.ext Try.func23 (by kernel_rfl) (by kernel_rfl) (by kernel_rfl) (e := add64Entry) (by kernel_rfl) rfl rfl (fun w => run_add64 0 0 0 (by omega) (by omega) (by omega) (by omega) w)) rfl ?_
  refine WL.val (Val.moveT rfl) rfl ?_
  refine WL.val (Val.extractI rfl rfl) rfl ?_
  refine WL.val (Val.extractI rfl rfl) rfl ?_
  refine WL.val (Val.assignI rfl) rfl ?_
  refine WL.val (Val.assignI rfl) rfl ?_
  refine WL.nil ?_
  refine WX.thenC ?_
  refine WC.seq ?_
  refine WC.region ?_
  refine WL.val (Val.moveI rfl) rfl ?_
  refine WL.val (Val.convert rfl (wrap_i64 (by omega) (by omega))) rfl ?_
  refine WL.val (Val.moveI rfl) rfl ?_
  refine WL.val (Val.build rfl) rfl ?_
  refine WL.store 3 rfl rfl rfl ?_
  refine WL.nil ?_
  refine WX.thenC ?_
  refine WC.ret ?_
  apply WX.doneR (ks := [])
  case hres => exact RunRes.r1 rfl (ResIs.cellO 3 rfl rfl rfl)
  case hp => rfl
  case hI => first | exact Mem.le.refl _ | assumption
  exact ⟨rfl, rfl, rfl⟩
theorem sub_ctr (q : Int) (I : Mem) (h0 : 0 ≤ q) (h1 : q ≤ 4000000000001) :
    Ctr Try.prog 24 [.agg #[.int .i64 0, .int .u64 0], .agg #[.int .i64 0, .int .u64 q]] I [] (Still I fun v => v = .agg #[.int .i64 (if q = 0 then 0 else -1), .int .u64 (if q = 0 then 0 else 18446744073709551616 - q)]) := by
  obtain ⟨n, rfl⟩ := Int.eq_ofNat_of_zero_le h0
  refine Ctr.intro Try.func24 rfl rfl rfl fun E F => ?_
  refine WC.seq ?_
  refine WC.region ?_
  (refine WL.box rfl rfl ?_; intro _)
  (refine WL.box rfl rfl ?_; intro _)
  (refine WL.alloc rfl ?_; intro _)
  refine WL.nil ?_
  refine WX.thenC ?_
  refine WC.seq ?_
  refine WC.region ?_
  refine WL.val (Val.fieldAddr rfl) rfl ?_
  refine WL.val (Val.loadS rfl (Rd.own1 1 rfl rfl)) rfl ?_
  refine WL.val (Val.fieldAddr rfl) rfl ?_
  refine WL.val (Val.loadS rfl (Rd.own1 2 rfl rfl)) rfl ?_
  refine WL.val (Val.ext Try.func26 (by kernel_rfl) (by kernel_rfl) (by kernel_rfl) (e := sub64Entry) (by kernel_rfl) rfl rfl (fun w => run_sub64 0 n 0 (by omega) w)) rfl ?_
  by_cases hq : n = 0
  · subst hq
    refine WL.val (Val.moveT rfl) rfl ?_
    refine WL.val (Val.extractI rfl rfl) rfl ?_
    refine WL.val (Val.extractI rfl rfl) rfl ?_
    refine WL.val (Val.assignI rfl) rfl ?_
    refine WL.val (Val.assignI rfl) rfl ?_
    refine WL.nil ?_
    refine WX.thenC ?_
    refine WC.seq ?_
    refine WC.region ?_
    refine WL.val (Val.fieldAddr rfl) rfl ?_
    refine WL.val (Val.loadS rfl (Rd.own1 1 rfl rfl)) rfl ?_
    refine WL.val (Val.convert rfl (wrap_u64 (by omega) (by omega))) rfl ?_
    refine WL.val (Val.fieldAddr rfl) rfl ?_
    refine WL.val (Val.loadS rfl (Rd.own1 2 rfl rfl)) rfl ?_
    refine WL.val (Val.convert rfl (wrap_u64 (by omega) (by omega))) rfl ?_
    refine WL.val (Val.moveI rfl) rfl ?_
    refine WL.val (Val.ext Try.func26 (by kernel_rfl) (by kernel_rfl) (by kernel_rfl) (e := sub64Entry) (by kernel_rfl) rfl rfl (fun w => run_sub64 0 0 0 (by omega) w)) rfl ?_
    refine WL.val (Val.moveT rfl) rfl ?_
    refine WL.val (Val.extractI rfl rfl) rfl ?_
    refine WL.val (Val.extractI rfl rfl) rfl ?_
    refine WL.val (Val.assignI rfl) rfl ?_
    refine WL.val (Val.assignI rfl) rfl ?_
    refine WL.nil ?_
    refine WX.thenC ?_
    refine WC.seq ?_
    refine WC.region ?_
    refine WL.val (Val.moveI rfl) rfl ?_
    refine WL.val (Val.convert rfl (wrap_i64 (by omega) (by omega))) rfl ?_
    refine WL.val (Val.moveI rfl) rfl ?_
    refine WL.val (Val.build rfl) rfl ?_
    refine WL.store 3 rfl rfl rfl ?_
    refine WL.nil ?_
    refine WX.thenC ?_
    refine WC.ret ?_
    apply WX.doneR (ks := [])
    case hres => exact RunRes.r1 rfl (ResIs.cellO 3 rfl rfl rfl)
    case hp => rfl
    case hI => first | exact Mem.le.refl _ | assumption
    exact ⟨rfl, rfl, rfl⟩
  · rw [show (0 + 18446744073709551616 - n - 0) % 18446744073709551616 = 18446744073709551616 - n by omega, if_pos (show 0 < n + 0 by omega)]
    refine WL.val (Val.moveT rfl) rfl ?_
    refine WL.val (Val.extractI rfl rfl) rfl ?_
    refine WL.val (Val.extractI rfl rfl) rfl ?_
    refine WL.val (Val.assignI rfl) rfl ?_
    refine WL.val (Val.assignI rfl) rfl ?_
    refine WL.nil ?_
    refine WX.thenC ?_
    refine WC.seq ?_
    refine WC.region ?_
    refine WL.val (Val.fieldAddr rfl) rfl ?_
    refine WL.val (Val.loadS rfl (Rd.own1 1 rfl rfl)) rfl ?_
    refine WL.val (Val.convert rfl (wrap_u64 (by omega) (by omega))) rfl ?_
    refine WL.val (Val.fieldAddr rfl) rfl ?_
    refine WL.val (Val.loadS rfl (Rd.own1 2 rfl rfl)) rfl ?_
    refine WL.val (Val.convert rfl (wrap_u64 (by omega) (by omega))) rfl ?_
    refine WL.val (Val.moveI rfl) rfl ?_
    refine WL.val (Val.ext Try.func26 (by kernel_rfl) (by kernel_rfl) (by kernel_rfl) (e := sub64Entry) (by kernel_rfl) rfl rfl (fun w => run_sub64 0 0 1 (by omega) w)) rfl ?_
    refine WL.val (Val.moveT rfl) rfl ?_
    refine WL.val (Val.extractI rfl rfl) rfl ?_
    refine WL.val (Val.extractI rfl rfl) rfl ?_
    refine WL.val (Val.assignI rfl) rfl ?_
    refine WL.val (Val.assignI rfl) rfl ?_
    refine WL.nil ?_
    refine WX.thenC ?_
    refine WC.seq ?_
    refine WC.region ?_
    refine WL.val (Val.moveI rfl) rfl ?_
    refine WL.val (Val.convert rfl rfl) rfl ?_
    refine WL.val (Val.moveI rfl) rfl ?_
    refine WL.val (Val.build rfl) rfl ?_
    refine WL.store 3 rfl rfl rfl ?_
    refine WL.nil ?_
    refine WX.thenC ?_
    refine WC.ret ?_
    apply WX.doneR (ks := [])
    case hres => exact RunRes.r1 rfl (ResIs.cellO 3 rfl rfl rfl)
    case hp => rfl
    case hI => first | exact Mem.le.refl _ | assumption
    refine ⟨rfl, rfl, ?_⟩
    show Value.agg #[.int .i64 _, .int .u64 _] = _
    have e : ((n : Nat) : Int) ≠ 0 := by omega
    rw [if_neg e, if_neg e]
    exact agg2 (by rfl) (by omega)
theorem neg_ctr (q : Int) (I : Mem) (h0 : 0 ≤ q) (h1 : q ≤ 4000000000001) :
    Ctr Try.prog 20 [.agg #[.int .i64 0, .int .u64 q]] I [] (Still I fun v => v = .agg #[.int .i64 (if q = 0 then 0 else -1), .int .u64 (if q = 0 then 0 else 18446744073709551616 - q)]) := by
  refine Ctr.intro Try.func20 rfl rfl rfl fun E F => ?_
  refine WC.seq ?_
  refine WC.region ?_
  (refine WL.box rfl rfl ?_; intro _)
  (refine WL.alloc rfl ?_; intro _)
  refine WL.nil ?_
  refine WX.thenC ?_
  refine WC.seq ?_
  refine WC.region ?_
  refine WL.val (Val.build rfl) rfl ?_
  refine WL.val (Val.loadO 1 rfl rfl rfl) rfl ?_
  refine WL.callS rfl rfl (sub_ctr q I h0 h1) rfl ?_
  rintro _ rfl
  refine WL.store 2 rfl rfl rfl ?_
  refine WL.nil ?_
  refine WX.thenC ?_
  refine WC.ret ?_
  apply WX.doneR (ks := [])
  case hres => exact RunRes.r1 rfl (ResIs.cellO 2 rfl rfl rfl)
  case hp => rfl
  case hI => first | exact Mem.le.refl _ | assumption
  exact ⟨rfl, rfl, rfl⟩
theorem int_ctr (n hi lo : Int) (I : Mem) (h0 : -4000000000000 ≤ n) (h1 : n ≤ 4000000000000) (e1 : hi = n / 9223372036854775808) (e2 : lo = n % 18446744073709551616) :
    Ctr Try.prog 21 [.agg #[.int .i64 hi, .int .u64 lo]] I [] (Still I fun v => v = .tuple #[.int .i64 n, .bool true]) := by
  subst e1; subst e2
  refine Ctr.intro Try.func21 rfl rfl rfl fun E F => ?_
  have hw : IntKind.i64.wrap (n % 18446744073709551616) = n := by rw [wrap_i64_eq]; omega
  refine WC.seq ?_
  refine WC.region ?_
  (refine WL.box rfl rfl ?_; intro _)
  refine WL.val (Val.assignI rfl) rfl ?_
  refine WL.val (Val.assignB rfl) rfl ?_
  refine WL.nil ?_
  refine WX.thenC ?_
  refine WC.seq ?_
  refine WC.seq ?_
  refine WC.region ?_
  refine WL.val (Val.fieldAddr rfl) rfl ?_
  refine WL.val (Val.loadS rfl (Rd.own1 1 rfl rfl)) rfl ?_
  refine WL.val (Val.convert rfl rfl) rfl ?_
  refine WL.val (Val.assignI rfl) rfl ?_
  refine WL.nil ?_
  refine WX.thenC ?_
  refine WC.seq ?_
  rw [hw]
  skip
  refine WC.drawK 999 I [1] rfl (by kernel_rfl) rfl rfl ?_
  refine WA.take 0 rfl (by kernel_rfl) rfl (fun w h => (h.sub [1] rfl)) (Val.loadO 0 rfl rfl rfl) rfl ?_
  refine WA.take 1 rfl (by kernel_rfl) rfl (fun w h => (h.sub [1] rfl)) (Val.moveI rfl) rfl ?_
  refine WA.eff1 (i := 2) (by kernel_rfl) rfl rfl ?_
  refine WL.callS rfl rfl (of_ctr n I h0 h1) rfl ?_
  rintro _ rfl
  refine WL.nil ?_
  refine WK.anyStep (fun w h => (h.sub [1] rfl)) ?_
  refine WA.take 3 rfl (by kernel_rfl) rfl (fun w h => (h.sub [1] rfl)) (Val.eqlSame rfl rfl rfl) rfl ?_
  refine WA.done (by kernel_rfl) ?_
  refine WX.thenC ?_
  refine WC.condT rfl ?_
  refine WC.seq ?_
  refine WC.region ?_
  refine WL.val (Val.moveI rfl) rfl ?_
  refine WL.val (Val.assignI rfl) rfl ?_
  refine WL.val (Val.assignB rfl) rfl ?_
  refine WL.nil ?_
  refine WX.thenC ?_
  refine WC.ret ?_
  refine WX.thenRet ?_
  apply WX.doneR (ks := [])
  case hres => exact RunRes.r2 rfl (ResIs.tmpI rfl) (ResIs.tmpB rfl)
  case hp => rfl
  case hI => first | exact Mem.le.refl _ | assumption
  exact ⟨rfl, rfl, rfl⟩

theorem muldiv_ctr (b d : Int) (I : Mem) (h0 : -10000000000 ≤ b) (h1 : b ≤ 10000000000) (h2 : 1 ≤ d) (h3 : d ≤ 4194304) :
    Ctr Try.prog 13 [.int .i64 1, .int .i64 b, .int .i64 d] I [] (Still I fun v => ∃ x, v = .tuple #[.int .i64 (b / d), .bool x, .int .i64 0]) := by
  refine Ctr.intro Try.func13 rfl rfl rfl fun E F => ?_
  refine WC.seq ?_
  refine WC.region ?_
  refine WL.val (Val.assignI rfl) rfl ?_
  refine WL.val (Val.assignB rfl) rfl ?_
  refine WL.val (Val.assignI rfl) rfl ?_
  refine WL.nil ?_
  refine WX.thenC ?_
  refine WC.seq ?_
  refine WC.seq ?_
  refine WC.region ?_
  refine WL.val (Val.moveI rfl) rfl ?_
  refine WL.val (Val.eql rfl rfl (beq_eq_false_iff_ne.2 (by omega))) rfl ?_
  refine WL.nil ?_
  refine WX.thenC ?_
  refine WC.condF rfl ?_
  refine WC.skip ?_
  refine WX.thenC ?_
  refine WC.seq ?_
  refine WC.region ?_
  refine WL.val (Val.moveI rfl) rfl ?_
  refine WL.callS rfl rfl (size_ctr 1 I (by omega) (by omega)) rfl ?_
  rintro _ ⟨m1, rfl, ha1, hb1, hc1, hd1⟩
  obtain rfl : m1 = 1 := hd1 (by omega)
  clear ha1 hb1 hc1 hd1
  refine WL.val (Val.moveI rfl) rfl ?_
  refine WL.callS rfl rfl (size_ctr b I (by omega) (by omega)) rfl ?_
  rintro _ ⟨m2, rfl, ha2, hb2, hc2, hd2⟩
  skip
  refine WL.callS rfl rfl (mul64 m2 I (by omega) (by omega)) rfl ?_
  rintro _ rfl
  refine WL.val (Val.moveT rfl) rfl ?_
  refine WL.val (Val.extractI rfl rfl) rfl ?_
  refine WL.val (Val.extractI rfl rfl) rfl ?_
  refine WL.val (Val.assignI rfl) rfl ?_
  refine WL.val (Val.assignI rfl) rfl ?_
  refine WL.nil ?_
  refine WX.thenC ?_
  refine WC.seq ?_
  refine WC.seq ?_
  refine WC.region ?_
  refine WL.val (Val.moveI rfl) rfl ?_
  refine WL.val (Val.moveI rfl) rfl ?_
  refine WL.callS rfl rfl (size_ctr d I (by omega) (by omega)) rfl ?_
  rintro _ ⟨m3, rfl, ha3, hb3, hc3, hd3⟩
  obtain rfl : m3 = d := hd3 (by omega)
  refine WL.val (Val.geq rfl rfl (decide_eq_false (by omega))) rfl ?_
  refine WL.nil ?_
  refine WX.thenC ?_
  refine WC.condF rfl ?_
  refine WC.skip ?_
  refine WX.thenC ?_
  refine WC.seq ?_
  refine WC.region ?_
  refine WL.val (Val.moveI rfl) rfl ?_
  refine WL.val (Val.moveI rfl) rfl ?_
  refine WL.val (Val.moveI rfl) rfl ?_
  refine WL.callS rfl rfl (size_ctr m3 I (by omega) (by omega)) rfl ?_
  rintro _ ⟨m4, rfl, ha4, hb4, hc4, hd4⟩
  obtain rfl : m4 = m3 := hd4 (by omega)
  clear ha3 hb3 hc3 hd3 ha4 hb4 hc4 hd4
  skip
  refine WL.callS rfl rfl (div64 m2 m4 I (by omega) (by omega) (by omega) (by omega)) rfl ?_
  rintro _ rfl
  have q0 : 0 ≤ m2 / m4 := Int.ediv_nonneg ha2 (by omega)
  have q1 : m2 / m4 ≤ m2 := Int.ediv_le_self _ ha2
  have r0 : 0 ≤ m2 % m4 := Int.emod_nonneg _ (by omega)
  have r1 : m2 % m4 < m4 := Int.emod_lt_of_pos _ (by omega)
  have hdm := Int.mul_ediv_add_emod m2 m4
  by_cases hb : b < 0
  · obtain rfl : m2 = -b := hc2 hb
    by_cases hr : 0 < -b % m4
    · have hq : b / m4 = -(-b / m4 + 1) := by
        rw [Int.ediv_eq_iff_of_pos (by omega)]
        constructor
        · rw [Int.neg_mul, Int.add_mul, Int.mul_comm (-b / m4)]; omega
        · rw [Int.neg_add, Int.add_mul, Int.neg_mul, Int.neg_mul, Int.one_mul, Int.mul_comm (-b / m4)]; omega
      refine WL.val (Val.moveT rfl) rfl ?_
      refine WL.val (Val.extractI rfl rfl) rfl ?_
      refine WL.val (Val.extractI rfl rfl) rfl ?_
      refine WL.val (Val.assignI rfl) rfl ?_
      refine WL.val (Val.assignI rfl) rfl ?_
      refine WL.nil ?_
      refine WX.thenC ?_
      refine WC.seq ?_
      refine WC.region ?_
      refine WL.val (Val.moveI rfl) rfl ?_
      refine WL.val (Val.build rfl) rfl ?_
      (refine WL.alloc rfl ?_; intro _)
      refine WL.store 1 rfl rfl rfl ?_
      refine WL.nil ?_
      refine WX.thenC ?_
      refine WC.seq ?_
      refine WC.seq ?_
      refine WC.region ?_
      refine WL.val (Val.moveI rfl) rfl ?_
      refine WL.val (Val.lss rfl rfl (decide_eq_false (by omega))) rfl ?_
      refine WL.val (Val.moveI rfl) rfl ?_
      refine WL.val (Val.lss rfl rfl (decide_eq_true (by omega))) rfl ?_
      refine WL.val (Val.neqB rfl rfl) rfl ?_
      refine WL.val (Val.moveI rfl) rfl ?_
      refine WL.val (Val.lss rfl rfl (decide_eq_false (by omega))) rfl ?_
      refine WL.val (Val.neqB rfl rfl) rfl ?_
      refine WL.nil ?_
      refine WX.thenC ?_
      refine WC.condT rfl ?_
      refine WC.seq ?_
      refine WC.seq ?_
      refine WC.region ?_
      refine WL.val (Val.moveI rfl) rfl ?_
      refine WL.val (Val.gtr rfl rfl (decide_eq_true (by omega))) rfl ?_
      refine WL.nil ?_
      refine WX.thenC ?_
      refine WC.condT rfl ?_
      refine WC.drawK 3 I [1] rfl (by kernel_rfl) rfl rfl ?_
      refine WA.take 0 rfl (by kernel_rfl) rfl (fun w h => (h.sub [1] rfl)) (Val.loadO 0 rfl rfl rfl) rfl ?_
      refine WA.eff1 (i := 1) (by kernel_rfl) rfl rfl ?_
      refine WL.callS rfl rfl (of_ctr 1 I (by omega) (by omega)) rfl ?_
      rintro _ rfl
      refine WL.nil ?_
      refine WK.anyStep (fun w h => (h.sub [1] rfl)) ?_
      refine WA.eff1 (i := 2) (by kernel_rfl) rfl rfl ?_
      refine WL.callS rfl rfl (add_ctr (-b / m4) I (by omega) (by omega)) rfl ?_
      rintro _ rfl
      refine WL.nil ?_
      refine WK.anyStep (fun w h => (h.sub [1] rfl)) ?_
      refine WA.eff1 (i := 3) (by kernel_rfl) rfl rfl ?_
      refine WL.store 1 rfl rfl rfl ?_
      refine WL.nil ?_
      refine WK.anyLast ?_
      refine WA.done (by kernel_rfl) ?_
      refine WX.thenC ?_
      refine WC.region ?_
      refine WL.val (Val.loadO 1 rfl rfl rfl) rfl ?_
      refine WL.callS rfl rfl (neg_ctr (-b / m4 + 1) I (by omega) (by omega)) rfl ?_
      rintro _ rfl
      refine WL.store 1 rfl rfl rfl ?_
      refine WL.nil ?_
      refine WX.thenC ?_
      refine WC.seq ?_
      refine WC.region ?_
      refine WL.val (Val.loadO 1 rfl rfl rfl) rfl ?_
      rw [if_neg (by omega), if_neg (by omega)]
      refine WL.callS rfl rfl (int_ctr (b / m4) _ _ I (by omega) (by omega) (by omega) (by omega)) rfl ?_
      rintro _ rfl
      refine WL.val (Val.moveT rfl) rfl ?_
      refine WL.val (Val.extractI rfl rfl) rfl ?_
      refine WL.val (Val.extractB rfl rfl) rfl ?_
      refine WL.val (Val.assignI rfl) rfl ?_
      refine WL.val (Val.assignB rfl) rfl ?_
      refine WL.nil ?_
      refine WX.thenC ?_
      refine WC.seq ?_
      refine WC.seq ?_
      refine WC.region ?_
      refine WL.val (Val.moveB rfl) rfl ?_
      refine WL.val (Val.not rfl) rfl ?_
      refine WL.nil ?_
      refine WX.thenC ?_
      refine WC.condF rfl ?_
      refine WC.skip ?_
      refine WX.thenC ?_
      refine WC.seq ?_
      refine WC.region ?_
      refine WL.val (Val.moveI rfl) rfl ?_
      refine WL.val (Val.moveI rfl) rfl ?_
      refine WL.val (Val.eql rfl rfl (beq_eq_false_iff_ne.2 (by omega))) rfl ?_
      refine WL.val (Val.assignI rfl) rfl ?_
      refine WL.val (Val.assignB rfl) rfl ?_
      refine WL.val (Val.assignI rfl) rfl ?_
      refine WL.nil ?_
      refine WX.thenC ?_
      refine WC.ret ?_
      apply WX.doneR (ks := [])
      case hres => exact RunRes.r3 rfl (ResIs.tmpI rfl) (ResIs.tmpB rfl) (ResIs.tmpI rfl)
      case hp => rfl
      case hI => first | exact Mem.le.refl _ | assumption
      exact ⟨rfl, rfl, _, rfl⟩
    · have hq : b / m4 = -(-b / m4) := by
        rw [Int.ediv_eq_iff_of_pos (by omega)]
        constructor
        · rw [Int.neg_mul, Int.mul_comm (-b / m4)]; omega
        · rw [Int.neg_mul, Int.mul_comm (-b / m4)]; omega
      refine WL.val (Val.moveT rfl) rfl ?_
      refine WL.val (Val.extractI rfl rfl) rfl ?_
      refine WL.val (Val.extractI rfl rfl) rfl ?_
      refine WL.val (Val.assignI rfl) rfl ?_
      refine WL.val (Val.assignI rfl) rfl ?_
      refine WL.nil ?_
      refine WX.thenC ?_
      refine WC.seq ?_
      refine WC.region ?_
      refine WL.val (Val.moveI rfl) rfl ?_
      refine WL.val (Val.build rfl) rfl ?_
      (refine WL.alloc rfl ?_; intro _)
      refine WL.store 1 rfl rfl rfl ?_
      refine WL.nil ?_
      refine WX.thenC ?_
      refine WC.seq ?_
      refine WC.seq ?_
      refine WC.region ?_
      refine WL.val (Val.moveI rfl) rfl ?_
      refine WL.val (Val.lss rfl rfl (decide_eq_false (by omega))) rfl ?_
      refine WL.val (Val.moveI rfl) rfl ?_
      refine WL.val (Val.lss rfl rfl (decide_eq_true (by omega))) rfl ?_
      refine WL.val (Val.neqB rfl rfl) rfl ?_
      refine WL.val (Val.moveI rfl) rfl ?_
      refine WL.val (Val.lss rfl rfl (decide_eq_false (by omega))) rfl ?_
      refine WL.val (Val.neqB rfl rfl) rfl ?_
      refine WL.nil ?_
      refine WX.thenC ?_
      refine WC.condT rfl ?_
      refine WC.seq ?_
      refine WC.seq ?_
      refine WC.region ?_
      refine WL.val (Val.moveI rfl) rfl ?_
      refine WL.val (Val.gtr rfl rfl (decide_eq_false (by omega))) rfl ?_
      refine WL.nil ?_
      refine WX.thenC ?_
      refine WC.condF rfl ?_
      refine WC.skip ?_
      refine WX.thenC ?_
      refine WC.region ?_
      refine WL.val (Val.loadO 1 rfl rfl rfl) rfl ?_
      refine WL.callS rfl rfl (neg_ctr (-b / m4) I (by omega) (by omega)) rfl ?_
      rintro _ rfl
      refine WL.store 1 rfl rfl rfl ?_
      refine WL.nil ?_
      refine WX.thenC ?_
      refine WC.seq ?_
      refine WC.region ?_
      refine WL.val (Val.loadO 1 rfl rfl rfl) rfl ?_
      refine WL.callS rfl rfl (int_ctr (b / m4) _ _ I (by omega) (by omega) (by split <;> omega) (by split <;> omega)) rfl ?_
      rintro _ rfl
      refine WL.val (Val.moveT rfl) rfl ?_
      refine WL.val (Val.extractI rfl rfl) rfl ?_
      refine WL.val (Val.extractB rfl rfl) rfl ?_
      refine WL.val (Val.assignI rfl) rfl ?_
      refine WL.val (Val.assignB rfl) rfl ?_
      refine WL.nil ?_
      refine WX.thenC ?_
      refine WC.seq ?_
      refine WC.seq ?_
      refine WC.region ?_
      refine WL.val (Val.moveB rfl) rfl ?_
      refine WL.val (Val.not rfl) rfl ?_
      refine WL.nil ?_
      refine WX.thenC ?_
      refine WC.condF rfl ?_
      refine WC.skip ?_
      refine WX.thenC ?_
      refine WC.seq ?_
      refine WC.region ?_
      refine WL.val (Val.moveI rfl) rfl ?_
      refine WL.val (Val.moveI rfl) rfl ?_
      refine WL.val (Val.eql rfl rfl (beq_iff_eq.2 (by omega))) rfl ?_
      refine WL.val (Val.assignI rfl) rfl ?_
      refine WL.val (Val.assignB rfl) rfl ?_
      refine WL.val (Val.assignI rfl) rfl ?_
      refine WL.nil ?_
      refine WX.thenC ?_
      refine WC.ret ?_
      apply WX.doneR (ks := [])
      case hres => exact RunRes.r3 rfl (ResIs.tmpI rfl) (ResIs.tmpB rfl) (ResIs.tmpI rfl)
      case hp => rfl
      case hI => first | exact Mem.le.refl _ | assumption
      exact ⟨rfl, rfl, _, rfl⟩
  · obtain rfl : m2 = b := hd2 hb
    refine WL.val (Val.moveT rfl) rfl ?_
    refine WL.val (Val.extractI rfl rfl) rfl ?_
    refine WL.val (Val.extractI rfl rfl) rfl ?_
    refine WL.val (Val.assignI rfl) rfl ?_
    refine WL.val (Val.assignI rfl) rfl ?_
    refine WL.nil ?_
    refine WX.thenC ?_
    refine WC.seq ?_
    refine WC.region ?_
    refine WL.val (Val.moveI rfl) rfl ?_
    refine WL.val (Val.build rfl) rfl ?_
    (refine WL.alloc rfl ?_; intro _)
    refine WL.store 1 rfl rfl rfl ?_
    refine WL.nil ?_
    refine WX.thenC ?_
    refine WC.seq ?_
    refine WC.seq ?_
    refine WC.region ?_
    refine WL.val (Val.moveI rfl) rfl ?_
    refine WL.val (Val.lss rfl rfl (decide_eq_false (by omega))) rfl ?_
    refine WL.val (Val.moveI rfl) rfl ?_
    refine WL.val (Val.lss rfl rfl (decide_eq_false (by omega))) rfl ?_
    refine WL.val (Val.neqB rfl rfl) rfl ?_
    refine WL.val (Val.moveI rfl) rfl ?_
    refine WL.val (Val.lss rfl rfl (decide_eq_false (by omega))) rfl ?_
    refine WL.val (Val.neqB rfl rfl) rfl ?_
    refine WL.nil ?_
    refine WX.thenC ?_
    refine WC.condF rfl ?_
    refine WC.skip ?_
    refine WX.thenC ?_
    refine WC.seq ?_
    refine WC.region ?_
    refine WL.val (Val.loadO 1 rfl rfl rfl) rfl ?_
    refine WL.callS rfl rfl (int_ctr (m2 / m4) _ _ I (by omega) (by omega) (by omega) (by omega)) rfl ?_
    rintro _ rfl
    refine WL.val (Val.moveT rfl) rfl ?_
    refine WL.val (Val.extractI rfl rfl) rfl ?_
    refine WL.val (Val.extractB rfl rfl) rfl ?_
    refine WL.val (Val.assignI rfl) rfl ?_
    refine WL.val (Val.assignB rfl) rfl ?_
    refine WL.nil ?_
    refine WX.thenC ?_
    refine WC.seq ?_
    refine WC.seq ?_
    refine WC.region ?_
    refine WL.val (Val.moveB rfl) rfl ?_
    refine WL.val (Val.not rfl) rfl ?_
    refine WL.nil ?_
    refine WX.thenC ?_
    refine WC.condF rfl ?_
    refine WC.skip ?_
    refine WX.thenC ?_
    refine WC.seq ?_
    refine WC.region ?_
    refine WL.val (Val.moveI rfl) rfl ?_
    refine WL.val (Val.moveI rfl) rfl ?_
    refine WL.val (Val.eql rfl rfl rfl) rfl ?_
    refine WL.val (Val.assignI rfl) rfl ?_
    refine WL.val (Val.assignB rfl) rfl ?_
    refine WL.val (Val.assignI rfl) rfl ?_
    refine WL.nil ?_
    refine WX.thenC ?_
    refine WC.ret ?_
    apply WX.doneR (ks := [])
    case hres => exact RunRes.r3 rfl (ResIs.tmpI rfl) (ResIs.tmpB rfl) (ResIs.tmpI rfl)
    case hp => rfl
    case hI => first | exact Mem.le.refl _ | assumption
    exact ⟨rfl, rfl, _, rfl⟩
/-- The nearest multiple. -/
def snap (n g : Int) : Int := (2 * n + g) / (2 * g) * g
theorem snap_near (n g : Int) (h3 : 1 ≤ g) : n - g ≤ snap n g ∧ snap n g ≤ n + g := by
  unfold snap
  have h1 := Int.mul_ediv_add_emod (2 * n + g) (2 * g)
  have h2 := Int.emod_nonneg (2 * n + g) (b := 2 * g) (by omega)
  have h4 := Int.emod_lt_of_pos (2 * n + g) (b := 2 * g) (by omega)
  have e : (2 * n + g) / (2 * g) * g * 2 = 2 * g * ((2 * n + g) / (2 * g)) := by
    rw [Int.mul_comm, ← Int.mul_assoc, Int.mul_comm (2 * g), Int.mul_comm 2, Int.mul_assoc]
  omega
theorem wrap_snap (n g : Int) (h : n - g ≤ snap n g) (h' : snap n g ≤ n + g) (h0 : -2147483648 ≤ n) (h1 : n ≤ 2147483648) (h2 : 1 ≤ g) (h3 : g ≤ 1048576) : IntKind.i64.wrap ((2 * n + g) / (2 * g) * g) = snap n g :=
  wrap_i64 (n := snap n g) (by omega) (by omega)
theorem near_ctr (n g : Int) (I : Mem) (h0 : -2147483648 ≤ n) (h1 : n ≤ 2147483648) (h2 : 1 ≤ g) (h3 : g ≤ 1048576) :
    Ctr Try.prog 9 [.int .i64 n, .int .i64 g] I [] (Still I fun v => v = .int .i64 (snap n g)) := by
  have hs := snap_near n g h2
  refine Ctr.intro Try.func9 rfl rfl rfl fun E F => ?_
  refine WC.seq ?_
  refine WC.region ?_
  refine WL.val (Val.assignI rfl) rfl ?_
  refine WL.nil ?_
  refine WX.thenC ?_
  refine WC.seq ?_
  refine WC.region ?_
  refine WL.val (Val.moveI rfl) rfl ?_
  refine WL.val (Val.mul rfl rfl (wrap_i64 (by omega) (by omega))) rfl ?_
  refine WL.val (Val.moveI rfl) rfl ?_
  refine WL.val (Val.add rfl rfl (wrap_i64 (by omega) (by omega))) rfl ?_
  refine WL.val (Val.moveI rfl) rfl ?_
  refine WL.val (Val.mul rfl rfl (wrap_i64 (by omega) (by omega))) rfl ?_
  refine WL.callS rfl rfl (muldiv_ctr (2 * n + g) (2 * g) I (by omega) (by omega) (by omega) (by omega)) rfl ?_
  rintro _ ⟨x, rfl⟩
  refine WL.val (Val.moveT rfl) rfl ?_
  refine WL.val (Val.extractI rfl rfl) rfl ?_
  refine WL.val (Val.extractB rfl rfl) rfl ?_
  refine WL.val (Val.extractI rfl rfl) rfl ?_
  refine WL.val (Val.assignI rfl) rfl ?_
  refine WL.val (Val.assignB rfl) rfl ?_
  refine WL.val (Val.assignI rfl) rfl ?_
  refine WL.nil ?_
  refine WX.thenC ?_
  refine WC.seq ?_
  refine WC.region ?_
  refine WL.val (Val.moveI rfl) rfl ?_
  refine WL.val (Val.moveI rfl) rfl ?_
  refine WL.val (Val.mul rfl rfl rfl) rfl ?_
  refine WL.val (Val.assignI rfl) rfl ?_
  refine WL.nil ?_
  refine WX.thenC ?_
  refine WC.ret ?_
  rw [wrap_snap n g hs.1 hs.2 h0 h1 h2 h3]
  skip
  apply WX.doneR (ks := [])
  case hres => exact RunRes.r1 rfl (ResIs.tmpI rfl)
  case hp => rfl
  case hI => first | exact Mem.le.refl _ | assumption
  exact ⟨rfl, rfl, rfl⟩
def inR (a : Int) : Bool := decide (-2147483648 ≤ a) && decide (a ≤ 2147483648)
theorem fin_ctr (a : Int) (I : Mem) : Ctr Try.prog 12 [.int .i64 a] I [] (Still I fun v => v = .bool (inR a)) := by
  refine Ctr.intro Try.func12 rfl rfl rfl fun E F => ?_
  by_cases h : -2147483648 ≤ a
  · skip
    refine WC.seq ?_
    refine WC.region ?_
    refine WL.val (Val.assignB rfl) rfl ?_
    refine WL.nil ?_
    refine WX.thenC ?_
    refine WC.seq ?_
    refine WC.region ?_
    refine WL.val (Val.moveI rfl) rfl ?_
    refine WL.val (Val.geq rfl rfl (decide_eq_true (by omega))) rfl ?_
    refine WL.val (Val.moveB rfl) rfl ?_
    refine WL.gT rfl rfl ?_
    refine WL.val (Val.moveI rfl) rfl ?_
    refine WL.gT rfl rfl ?_
    refine WL.val (Val.leq rfl rfl rfl) rfl ?_
    refine WL.val (Val.pick rfl) rfl ?_
    refine WL.val (Val.assignB rfl) rfl ?_
    refine WL.nil ?_
    refine WX.thenC ?_
    refine WC.ret ?_
    apply WX.doneR (ks := [])
    case hres => exact RunRes.r1 rfl (ResIs.tmpB rfl)
    case hp => rfl
    case hI => first | exact Mem.le.refl _ | assumption
    exact ⟨rfl, rfl, by simp [inR, h]⟩
  · skip
    refine WC.seq ?_
    refine WC.region ?_
    refine WL.val (Val.assignB rfl) rfl ?_
    refine WL.nil ?_
    refine WX.thenC ?_
    refine WC.seq ?_
    refine WC.region ?_
    refine WL.val (Val.moveI rfl) rfl ?_
    refine WL.val (Val.geq rfl rfl (decide_eq_false (by omega))) rfl ?_
    refine WL.val (Val.moveB rfl) rfl ?_
    refine WL.gF rfl rfl rfl rfl ?_
    refine WL.gF rfl rfl rfl rfl ?_
    refine WL.val (Val.pick rfl) rfl ?_
    refine WL.val (Val.assignB rfl) rfl ?_
    refine WL.nil ?_
    refine WX.thenC ?_
    refine WC.ret ?_
    apply WX.doneR (ks := [])
    case hres => exact RunRes.r1 rfl (ResIs.tmpB rfl)
    case hp => rfl
    case hI => first | exact Mem.le.refl _ | assumption
    exact ⟨rfl, rfl, by simp [inR, h]⟩
theorem rin_ctr (a : Int) (I : Mem) : Ctr Try.prog 10 [.int .i64 a] I [] (Still I fun v => v = .bool (inR a)) := by
  refine Ctr.intro Try.func10 rfl rfl rfl fun E F => ?_
  by_cases h : -2147483648 ≤ a
  · skip
    refine WC.seq ?_
    refine WC.region ?_
    refine WL.val (Val.assignB rfl) rfl ?_
    refine WL.nil ?_
    refine WX.thenC ?_
    refine WC.seq ?_
    refine WC.region ?_
    refine WL.val (Val.moveI rfl) rfl ?_
    refine WL.val (Val.geq rfl rfl (decide_eq_true (by omega))) rfl ?_
    refine WL.val (Val.moveB rfl) rfl ?_
    refine WL.gT rfl rfl ?_
    refine WL.val (Val.moveI rfl) rfl ?_
    refine WL.gT rfl rfl ?_
    refine WL.val (Val.leq rfl rfl rfl) rfl ?_
    refine WL.val (Val.pick rfl) rfl ?_
    refine WL.val (Val.assignB rfl) rfl ?_
    refine WL.nil ?_
    refine WX.thenC ?_
    refine WC.ret ?_
    apply WX.doneR (ks := [])
    case hres => exact RunRes.r1 rfl (ResIs.tmpB rfl)
    case hp => rfl
    case hI => first | exact Mem.le.refl _ | assumption
    exact ⟨rfl, rfl, by simp [inR, h]⟩
  · skip
    refine WC.seq ?_
    refine WC.region ?_
    refine WL.val (Val.assignB rfl) rfl ?_
    refine WL.nil ?_
    refine WX.thenC ?_
    refine WC.seq ?_
    refine WC.region ?_
    refine WL.val (Val.moveI rfl) rfl ?_
    refine WL.val (Val.geq rfl rfl (decide_eq_false (by omega))) rfl ?_
    refine WL.val (Val.moveB rfl) rfl ?_
    refine WL.gF rfl rfl rfl rfl ?_
    refine WL.gF rfl rfl rfl rfl ?_
    refine WL.val (Val.pick rfl) rfl ?_
    refine WL.val (Val.assignB rfl) rfl ?_
    refine WL.nil ?_
    refine WX.thenC ?_
    refine WC.ret ?_
    apply WX.doneR (ks := [])
    case hres => exact RunRes.r1 rfl (ResIs.tmpB rfl)
    case hp => rfl
    case hI => first | exact Mem.le.refl _ | assumption
    exact ⟨rfl, rfl, by simp [inR, h]⟩
theorem pin_ctr (a b : Int) (I : Mem) : Ctr Try.prog 8 [.agg #[.int .i64 a, .int .i64 b]] I [] (Still I fun v => v = .bool (inR a && inR b)) := by
  refine Ctr.intro Try.func8 rfl rfl rfl fun E F => ?_
  refine WC.seq ?_
  refine WC.region ?_
  (refine WL.box rfl rfl ?_; intro _)
  refine WL.val (Val.assignB rfl) rfl ?_
  refine WL.nil ?_
  refine WX.thenC ?_
  refine WC.seq ?_
  refine WC.region ?_
  refine WL.val (Val.fieldAddr rfl) rfl ?_
  refine WL.val (Val.loadS rfl (Rd.own1 1 rfl rfl)) rfl ?_
  refine WL.callS rfl rfl (fin_ctr a I) rfl ?_
  rintro _ rfl
  cases hA : inR a
  · skip
    refine WL.val (Val.moveB rfl) rfl ?_
    refine WL.gF rfl rfl rfl rfl ?_
    refine WL.gF rfl rfl rfl rfl ?_
    refine WL.gF rfl rfl rfl rfl ?_
    refine WL.val (Val.pick rfl) rfl ?_
    refine WL.val (Val.assignB rfl) rfl ?_
    refine WL.nil ?_
    refine WX.thenC ?_
    refine WC.ret ?_
    apply WX.doneR (ks := [])
    case hres => exact RunRes.r1 rfl (ResIs.tmpB rfl)
    case hp => rfl
    case hI => first | exact Mem.le.refl _ | assumption
    exact ⟨rfl, rfl, rfl⟩
  · skip
    refine WL.val (Val.moveB rfl) rfl ?_
    refine WL.gT rfl rfl ?_
    refine WL.val (Val.fieldAddr rfl) rfl ?_
    refine WL.gT rfl rfl ?_
    refine WL.val (Val.loadS rfl (Rd.own1 1 rfl rfl)) rfl ?_
    refine WL.gT rfl rfl ?_
    refine WL.callS rfl rfl (fin_ctr b I) rfl ?_
    rintro _ rfl
    refine WL.val (Val.pick rfl) rfl ?_
    refine WL.val (Val.assignB rfl) rfl ?_
    refine WL.nil ?_
    refine WX.thenC ?_
    refine WC.ret ?_
    apply WX.doneR (ks := [])
    case hres => exact RunRes.r1 rfl (ResIs.tmpB rfl)
    case hp => rfl
    case hI => first | exact Mem.le.refl _ | assumption
    exact ⟨rfl, rfl, rfl⟩
theorem lin_ctr (a b : Int) (I : Mem) : Ctr Try.prog 5 [.agg #[.int .i64 a, .int .i64 b]] I [] (Still I fun v => v = .bool (inR a && inR b)) := by
  refine Ctr.intro Try.func5 rfl rfl rfl fun E F => ?_
  refine WC.seq ?_
  refine WC.region ?_
  (refine WL.box rfl rfl ?_; intro _)
  refine WL.val (Val.assignB rfl) rfl ?_
  refine WL.nil ?_
  refine WX.thenC ?_
  refine WC.seq ?_
  refine WC.region ?_
  refine WL.val (Val.fieldAddr rfl) rfl ?_
  refine WL.val (Val.loadS rfl (Rd.own1 1 rfl rfl)) rfl ?_
  refine WL.callS rfl rfl (rin_ctr a I) rfl ?_
  rintro _ rfl
  cases hA : inR a
  · skip
    refine WL.val (Val.moveB rfl) rfl ?_
    refine WL.gF rfl rfl rfl rfl ?_
    refine WL.gF rfl rfl rfl rfl ?_
    refine WL.gF rfl rfl rfl rfl ?_
    refine WL.val (Val.pick rfl) rfl ?_
    refine WL.val (Val.assignB rfl) rfl ?_
    refine WL.nil ?_
    refine WX.thenC ?_
    refine WC.ret ?_
    apply WX.doneR (ks := [])
    case hres => exact RunRes.r1 rfl (ResIs.tmpB rfl)
    case hp => rfl
    case hI => first | exact Mem.le.refl _ | assumption
    exact ⟨rfl, rfl, rfl⟩
  · skip
    refine WL.val (Val.moveB rfl) rfl ?_
    refine WL.gT rfl rfl ?_
    refine WL.val (Val.fieldAddr rfl) rfl ?_
    refine WL.gT rfl rfl ?_
    refine WL.val (Val.loadS rfl (Rd.own1 1 rfl rfl)) rfl ?_
    refine WL.gT rfl rfl ?_
    refine WL.callS rfl rfl (rin_ctr b I) rfl ?_
    rintro _ rfl
    refine WL.val (Val.pick rfl) rfl ?_
    refine WL.val (Val.assignB rfl) rfl ?_
    refine WL.nil ?_
    refine WX.thenC ?_
    refine WC.ret ?_
    apply WX.doneR (ks := [])
    case hres => exact RunRes.r1 rfl (ResIs.tmpB rfl)
    case hp => rfl
    case hI => first | exact Mem.le.refl _ | assumption
    exact ⟨rfl, rfl, rfl⟩
end Go.Proofs.Ytfdeckdongonnaa
