/-
  limnerlaw22.HitSnaps: any point has the nearest point of any grid, or is refused; a point of the grid is its own. No condition.
-/
import Derived.Test.YtfdeckdongonnaaH1
namespace Go.Proofs.Ytfdeckdongonnaa
open Go.Sl
set_option maxRecDepth 100000
set_option linter.unusedVariables false
attribute [local irreducible] WC WL WX WK WA WAK Val Ctr RunRes ResIs Rd At sl box pt Exit.then Exit.inBlock bodyPost Code.wp wpList
theorem floor_of (n d : Int) (h : 1 ≤ d) : n / d = if n.tdiv d * d > n then n.tdiv d - 1 else n.tdiv d := by
  have e := Int.mul_tdiv_add_tmod n d
  have e2 := Int.mul_ediv_add_emod n d
  have m0 := Int.emod_nonneg n (b := d) (by omega)
  have m1 := Int.emod_lt_of_pos n (b := d) (by omega)
  rw [Int.mul_comm] at e
  by_cases hn : 0 ≤ n
  · have t0 : n.tdiv d = n / d := Int.tdiv_eq_ediv_of_nonneg hn
    have r0 := Int.tmod_nonneg d hn
    rw [if_neg (by omega), t0]
  · have tm : n.tmod d ≤ 0 := by
      have := Int.tmod_nonneg d (show 0 ≤ -n by omega)
      rw [Int.neg_tmod] at this; omega
    have tm2 : -d < n.tmod d := by
      have := Int.tmod_lt_of_pos (-n) (show 0 < d by omega)
      rw [Int.neg_tmod] at this; omega
    by_cases hz : n.tmod d = 0
    · rw [if_neg (by omega)]
      rw [Int.ediv_eq_iff_of_pos (by omega)]
      omega
    · rw [if_pos (by omega)]
      rw [Int.ediv_eq_iff_of_pos (by omega)]
      rw [Int.sub_mul]
      omega
theorem below_ctr (n d : Int) (I : Mem) (h0 : -2147483648 ≤ n) (h1 : n ≤ 2147483648) (h2 : 1 ≤ d) (h3 : d ≤ 1048576) :
    Ctr Try.prog 14 [.int .i64 n, .int .i64 d] I [] (Still I fun v => v = .int .i64 (n / d)) := by
  have hf := floor_of n d h2
  have e := Int.mul_tdiv_add_tmod n d
  rw [Int.mul_comm] at e
  have tl := Int.tmod_lt_of_pos n (show 0 < d by omega)
  have tl2 : -d < n.tmod d := by
    have := Int.tmod_lt_of_pos (-n) (show 0 < d by omega)
    rw [Int.neg_tmod] at this; omega
  have b1 : n.natAbs ≤ 2147483648 := by omega
  have b2 : (n.tdiv d).natAbs ≤ n.natAbs := by rw [Int.natAbs_tdiv]; exact Nat.div_le_self _ _
  refine Ctr.intro Try.func14 rfl rfl rfl fun E F => ?_
  refine WC.seq ?_
  refine WC.region ?_
  refine WL.val (Val.assignI rfl) rfl ?_
  refine WL.nil ?_
  refine WX.thenC ?_
  refine WC.seq ?_
  refine WC.region ?_
  refine WL.val (Val.moveI rfl) rfl ?_
  refine WL.val (Val.moveI rfl) rfl ?_
  refine WL.val (Val.quo rfl rfl (by omega) (wrap_i64 (by omega) (by omega))) rfl ?_
  generalize n.tdiv d = t at *
  by_cases hc : t * d > n
  · rw [if_pos hc] at hf
    refine WL.val (Val.assignI rfl) rfl ?_
    refine WL.nil ?_
    refine WX.thenC ?_
    refine WC.seq ?_
    refine WC.seq ?_
    refine WC.region ?_
    refine WL.val (Val.moveI rfl) rfl ?_
    refine WL.val (Val.moveI rfl) rfl ?_
    refine WL.val (Val.mul rfl rfl (wrap_i64 (by omega) (by omega))) rfl ?_
    refine WL.val (Val.moveI rfl) rfl ?_
    refine WL.val (Val.gtr rfl rfl (decide_eq_true (by omega))) rfl ?_
    refine WL.nil ?_
    refine WX.thenC ?_
    refine WC.condT rfl ?_
    refine WC.region ?_
    refine WL.val (Val.moveI rfl) rfl ?_
    refine WL.val (Val.sub rfl rfl (wrap_i64 (by omega) (by omega))) rfl ?_
    refine WL.val (Val.assignI rfl) rfl ?_
    refine WL.nil ?_
    refine WX.thenC ?_
    refine WC.seq ?_
    refine WC.region ?_
    refine WL.val (Val.moveI rfl) rfl ?_
    refine WL.val (Val.assignI rfl) rfl ?_
    refine WL.nil ?_
    refine WX.thenC ?_
    refine WC.ret ?_
    apply WX.doneR (ks := [])
    case hres => exact RunRes.r1 rfl (ResIs.tmpI rfl)
    case hp => rfl
    case hI => first | exact Mem.le.refl _ | assumption
    exact ⟨rfl, rfl, by rw [hf]⟩
  · rw [if_neg hc] at hf
    refine WL.val (Val.assignI rfl) rfl ?_
    refine WL.nil ?_
    refine WX.thenC ?_
    refine WC.seq ?_
    refine WC.seq ?_
    refine WC.region ?_
    refine WL.val (Val.moveI rfl) rfl ?_
    refine WL.val (Val.moveI rfl) rfl ?_
    refine WL.val (Val.mul rfl rfl (wrap_i64 (by omega) (by omega))) rfl ?_
    refine WL.val (Val.moveI rfl) rfl ?_
    refine WL.val (Val.gtr rfl rfl (decide_eq_false (by omega))) rfl ?_
    refine WL.nil ?_
    refine WX.thenC ?_
    refine WC.condF rfl ?_
    refine WC.skip ?_
    refine WX.thenC ?_
    refine WC.seq ?_
    refine WC.region ?_
    refine WL.val (Val.moveI rfl) rfl ?_
    refine WL.val (Val.assignI rfl) rfl ?_
    refine WL.nil ?_
    refine WX.thenC ?_
    refine WC.ret ?_
    apply WX.doneR (ks := [])
    case hres => exact RunRes.r1 rfl (ResIs.tmpI rfl)
    case hp => rfl
    case hI => first | exact Mem.le.refl _ | assumption
    exact ⟨rfl, rfl, by rw [hf]⟩
theorem round_snap (n g : Int) (h : 1 ≤ g) : (2 * n + g) / (2 * g) = if n - n / g * g ≥ g - (n - n / g * g) then n / g + 1 else n / g := by
  have e2 := Int.mul_ediv_add_emod n g
  rw [Int.mul_comm] at e2
  have m0 := Int.emod_nonneg n (b := g) (by omega)
  have m1 := Int.emod_lt_of_pos n (b := g) (by omega)
  rw [Int.ediv_eq_iff_of_pos (by omega)]
  generalize n / g = q at *
  have c1 : q * (2 * g) = 2 * (q * g) := by rw [← Int.mul_assoc, Int.mul_comm q 2, Int.mul_assoc]
  have c2 : (q + 1) * (2 * g) = 2 * (q * g) + 2 * g := by rw [Int.add_mul, c1, Int.one_mul]
  split <;> omega
theorem round_ctr (n d : Int) (I : Mem) (h0 : -2147483648 ≤ n) (h1 : n ≤ 2147483648) (h2 : 1 ≤ d) (h3 : d ≤ 1048576) :
    Ctr Try.prog 11 [.int .i64 n, .int .i64 d] I [] (Still I fun v => v = .int .i64 ((2 * n + d) / (2 * d))) := by
  have hr := round_snap n d h2
  have e2 := Int.mul_ediv_add_emod n d
  rw [Int.mul_comm] at e2
  have m0 := Int.emod_nonneg n (b := d) (by omega)
  have m1 := Int.emod_lt_of_pos n (b := d) (by omega)
  have b2 : (n / d).natAbs ≤ n.natAbs := Int.natAbs_ediv_le_natAbs n d
  refine Ctr.intro Try.func11 rfl rfl rfl fun E F => ?_
  refine WC.seq ?_
  refine WC.region ?_
  refine WL.val (Val.assignI rfl) rfl ?_
  refine WL.nil ?_
  refine WX.thenC ?_
  refine WC.seq ?_
  refine WC.region ?_
  refine WL.val (Val.moveI rfl) rfl ?_
  refine WL.val (Val.moveI rfl) rfl ?_
  refine WL.callS rfl rfl (below_ctr n d I h0 h1 h2 h3) rfl ?_
  rintro _ rfl
  generalize n / d = q at *
  by_cases hc : n - q * d ≥ d - (n - q * d)
  · rw [if_pos hc] at hr
    refine WL.val (Val.assignI rfl) rfl ?_
    refine WL.nil ?_
    refine WX.thenC ?_
    refine WC.seq ?_
    refine WC.region ?_
    refine WL.val (Val.moveI rfl) rfl ?_
    refine WL.val (Val.moveI rfl) rfl ?_
    refine WL.val (Val.moveI rfl) rfl ?_
    refine WL.val (Val.mul rfl rfl (wrap_i64 (by omega) (by omega))) rfl ?_
    refine WL.val (Val.sub rfl rfl (wrap_i64 (by omega) (by omega))) rfl ?_
    refine WL.val (Val.assignI rfl) rfl ?_
    refine WL.nil ?_
    refine WX.thenC ?_
    refine WC.seq ?_
    refine WC.seq ?_
    refine WC.region ?_
    refine WL.val (Val.moveI rfl) rfl ?_
    refine WL.val (Val.moveI rfl) rfl ?_
    refine WL.val (Val.moveI rfl) rfl ?_
    refine WL.val (Val.sub rfl rfl (wrap_i64 (by omega) (by omega))) rfl ?_
    refine WL.val (Val.geq rfl rfl (decide_eq_true (by omega))) rfl ?_
    refine WL.nil ?_
    refine WX.thenC ?_
    refine WC.condT rfl ?_
    refine WC.region ?_
    refine WL.val (Val.moveI rfl) rfl ?_
    refine WL.val (Val.add rfl rfl (wrap_i64 (by omega) (by omega))) rfl ?_
    refine WL.val (Val.assignI rfl) rfl ?_
    refine WL.nil ?_
    refine WX.thenC ?_
    refine WC.seq ?_
    refine WC.region ?_
    refine WL.val (Val.moveI rfl) rfl ?_
    refine WL.val (Val.assignI rfl) rfl ?_
    refine WL.nil ?_
    refine WX.thenC ?_
    refine WC.ret ?_
    apply WX.doneR (ks := [])
    case hres => exact RunRes.r1 rfl (ResIs.tmpI rfl)
    case hp => rfl
    case hI => first | exact Mem.le.refl _ | assumption
    exact ⟨rfl, rfl, by rw [hr]⟩
  · rw [if_neg hc] at hr
    refine WL.val (Val.assignI rfl) rfl ?_
    refine WL.nil ?_
    refine WX.thenC ?_
    refine WC.seq ?_
    refine WC.region ?_
    refine WL.val (Val.moveI rfl) rfl ?_
    refine WL.val (Val.moveI rfl) rfl ?_
    refine WL.val (Val.moveI rfl) rfl ?_
    refine WL.val (Val.mul rfl rfl (wrap_i64 (by omega) (by omega))) rfl ?_
    refine WL.val (Val.sub rfl rfl (wrap_i64 (by omega) (by omega))) rfl ?_
    refine WL.val (Val.assignI rfl) rfl ?_
    refine WL.nil ?_
    refine WX.thenC ?_
    refine WC.seq ?_
    refine WC.seq ?_
    refine WC.region ?_
    refine WL.val (Val.moveI rfl) rfl ?_
    refine WL.val (Val.moveI rfl) rfl ?_
    refine WL.val (Val.moveI rfl) rfl ?_
    refine WL.val (Val.sub rfl rfl (wrap_i64 (by omega) (by omega))) rfl ?_
    refine WL.val (Val.geq rfl rfl (decide_eq_false (by omega))) rfl ?_
    refine WL.nil ?_
    refine WX.thenC ?_
    refine WC.condF rfl ?_
    refine WC.skip ?_
    refine WX.thenC ?_
    refine WC.seq ?_
    refine WC.region ?_
    refine WL.val (Val.moveI rfl) rfl ?_
    refine WL.val (Val.assignI rfl) rfl ?_
    refine WL.nil ?_
    refine WX.thenC ?_
    refine WC.ret ?_
    apply WX.doneR (ks := [])
    case hres => exact RunRes.r1 rfl (ResIs.tmpI rfl)
    case hp => rfl
    case hI => first | exact Mem.le.refl _ | assumption
    exact ⟨rfl, rfl, by rw [hr]⟩
theorem rsnap_ctr (n g : Int) (I : Mem) (h0 : -2147483648 ≤ n) (h1 : n ≤ 2147483648) (h2 : 1 ≤ g) (h3 : g ≤ 1048576) :
    Ctr Try.prog 7 [.int .i64 n, .int .i64 g] I [] (Still I fun v => v = .int .i64 (snap n g)) := by
  have hs := snap_near n g h2
  refine Ctr.intro Try.func7 rfl rfl rfl fun E F => ?_
  refine WC.seq ?_
  refine WC.region ?_
  refine WL.val (Val.assignI rfl) rfl ?_
  refine WL.nil ?_
  refine WX.thenC ?_
  refine WC.seq ?_
  refine WC.region ?_
  refine WL.val (Val.moveI rfl) rfl ?_
  refine WL.val (Val.moveI rfl) rfl ?_
  refine WL.callS rfl rfl (round_ctr n g I h0 h1 h2 h3) rfl ?_
  rintro _ rfl
  refine WL.val (Val.moveI rfl) rfl ?_
  refine WL.val (Val.mul rfl rfl rfl) rfl ?_
  refine WL.val (Val.assignI rfl) rfl ?_
  refine WL.nil ?_
  refine WX.thenC ?_
  refine WC.ret ?_
  rw [wrap_snap n g hs.1 hs.2 h0 h1 h2 h3]
  skip
  apply WX.doneR (ks := [])
  case hres => exact RunRes.r1 rfl (ResIs.tmpI rfl)
  case hp => rfl
  case hI => first | exact Mem.le.refl _ | assumption
  exact ⟨rfl, rfl, rfl⟩
/-- What Snap answers. -/
def snapA (x y g : Int) : Value := if inR x && inR y && decide (1 ≤ g) && decide (g ≤ 1048576) then
    (if inR (snap x g) && inR (snap y g) then .tuple #[.agg #[.int .i64 (snap x g), .int .i64 (snap y g)], .int .i64 0] else .tuple #[.agg #[.int .i64 0, .int .i64 0], .int .i64 10])
  else .tuple #[.agg #[.int .i64 0, .int .i64 0], .int .i64 30]
theorem inR_iff {a : Int} (h : inR a = true) : -2147483648 ≤ a ∧ a ≤ 2147483648 := by simpa [inR] using h
theorem snap_ctr (x y g : Int) (I : Mem) :
    Ctr Try.prog 4 [.agg #[.int .i64 x, .int .i64 y], .int .i64 g] I [] (Still I fun v => v = snapA x y g) := by
  refine Ctr.intro Try.func4 rfl rfl rfl fun E F => ?_
  refine WC.seq ?_
  refine WC.region ?_
  (refine WL.box rfl rfl ?_; intro _)
  (refine WL.alloc rfl ?_; intro _)
  refine WL.val (Val.assignI rfl) rfl ?_
  refine WL.nil ?_
  refine WX.thenC ?_
  refine WC.seq ?_
  refine WC.seq ?_
  refine WC.region ?_
  refine WL.val (Val.loadO 1 rfl rfl rfl) rfl ?_
  refine WL.callS rfl rfl (pin_ctr x y I) rfl ?_
  rintro _ rfl
  cases hp : inR x && inR y
  · skip
    refine WL.val (Val.not rfl) rfl ?_
    refine WL.val (Val.moveB rfl) rfl ?_
    refine WL.gF rfl rfl rfl rfl ?_
    refine WL.gF rfl rfl rfl rfl ?_
    refine WL.val (Val.pick rfl) rfl ?_
    refine WL.val (Val.moveB rfl) rfl ?_
    refine WL.gF rfl rfl rfl rfl ?_
    refine WL.gF rfl rfl rfl rfl ?_
    refine WL.val (Val.pick rfl) rfl ?_
    refine WL.nil ?_
    refine WX.thenC ?_
    refine WC.condT rfl ?_
    refine WC.seq ?_
    refine WC.region ?_
    refine WL.val (Val.build rfl) rfl ?_
    refine WL.store 2 rfl rfl rfl ?_
    refine WL.val (Val.assignI rfl) rfl ?_
    refine WL.nil ?_
    refine WX.thenC ?_
    refine WC.ret ?_
    refine WX.thenRet ?_
    apply WX.doneR (ks := [])
    case hres => exact RunRes.r2 rfl (ResIs.cellO 2 rfl rfl rfl) (ResIs.tmpI rfl)
    case hp => rfl
    case hI => first | exact Mem.le.refl _ | assumption
    refine ⟨rfl, rfl, ?_⟩
    show Value.tuple #[.agg #[.int .i64 0, .int .i64 0], .int .i64 30] = _
    simp [snapA, hp]
  · by_cases hg1 : g < 1
    · skip
      refine WL.val (Val.not rfl) rfl ?_
      refine WL.val (Val.moveB rfl) rfl ?_
      refine WL.gT rfl rfl ?_
      refine WL.val (Val.moveI rfl) rfl ?_
      refine WL.gT rfl rfl ?_
      refine WL.val (Val.lss rfl rfl (decide_eq_true (by omega))) rfl ?_
      refine WL.val (Val.pick rfl) rfl ?_
      refine WL.val (Val.moveB rfl) rfl ?_
      refine WL.gF rfl rfl rfl rfl ?_
      refine WL.gF rfl rfl rfl rfl ?_
      refine WL.val (Val.pick rfl) rfl ?_
      refine WL.nil ?_
      refine WX.thenC ?_
      refine WC.condT rfl ?_
      refine WC.seq ?_
      refine WC.region ?_
      refine WL.val (Val.build rfl) rfl ?_
      refine WL.store 2 rfl rfl rfl ?_
      refine WL.val (Val.assignI rfl) rfl ?_
      refine WL.nil ?_
      refine WX.thenC ?_
      refine WC.ret ?_
      refine WX.thenRet ?_
      apply WX.doneR (ks := [])
      case hres => exact RunRes.r2 rfl (ResIs.cellO 2 rfl rfl rfl) (ResIs.tmpI rfl)
      case hp => rfl
      case hI => first | exact Mem.le.refl _ | assumption
      refine ⟨rfl, rfl, ?_⟩
      show Value.tuple #[.agg #[.int .i64 0, .int .i64 0], .int .i64 30] = _
      simp [snapA, hp, show ¬ 1 ≤ g by omega]
    · by_cases hg2 : g > 1048576
      · skip
        refine WL.val (Val.not rfl) rfl ?_
        refine WL.val (Val.moveB rfl) rfl ?_
        refine WL.gT rfl rfl ?_
        refine WL.val (Val.moveI rfl) rfl ?_
        refine WL.gT rfl rfl ?_
        refine WL.val (Val.lss rfl rfl (decide_eq_false (by omega))) rfl ?_
        refine WL.val (Val.pick rfl) rfl ?_
        refine WL.val (Val.moveB rfl) rfl ?_
        refine WL.gT rfl rfl ?_
        refine WL.val (Val.moveI rfl) rfl ?_
        refine WL.gT rfl rfl ?_
        refine WL.val (Val.gtr rfl rfl (decide_eq_true (by omega))) rfl ?_
        refine WL.val (Val.pick rfl) rfl ?_
        refine WL.nil ?_
        refine WX.thenC ?_
        refine WC.condT rfl ?_
        refine WC.seq ?_
        refine WC.region ?_
        refine WL.val (Val.build rfl) rfl ?_
        refine WL.store 2 rfl rfl rfl ?_
        refine WL.val (Val.assignI rfl) rfl ?_
        refine WL.nil ?_
        refine WX.thenC ?_
        refine WC.ret ?_
        refine WX.thenRet ?_
        apply WX.doneR (ks := [])
        case hres => exact RunRes.r2 rfl (ResIs.cellO 2 rfl rfl rfl) (ResIs.tmpI rfl)
        case hp => rfl
        case hI => first | exact Mem.le.refl _ | assumption
        refine ⟨rfl, rfl, ?_⟩
        show Value.tuple #[.agg #[.int .i64 0, .int .i64 0], .int .i64 30] = _
        simp [snapA, hp, show ¬ g ≤ 1048576 by omega]
      · have hx := inR_iff (Bool.and_eq_true _ _ ▸ hp : inR x = true ∧ inR y = true).1
        have hy := inR_iff (Bool.and_eq_true _ _ ▸ hp : inR x = true ∧ inR y = true).2
        have cx := near_ctr x g I hx.1 hx.2 (by omega) (by omega)
        have cy := near_ctr y g I hy.1 hy.2 (by omega) (by omega)
        refine WL.val (Val.not rfl) rfl ?_
        refine WL.val (Val.moveB rfl) rfl ?_
        refine WL.gT rfl rfl ?_
        refine WL.val (Val.moveI rfl) rfl ?_
        refine WL.gT rfl rfl ?_
        refine WL.val (Val.lss rfl rfl (decide_eq_false (by omega))) rfl ?_
        refine WL.val (Val.pick rfl) rfl ?_
        refine WL.val (Val.moveB rfl) rfl ?_
        refine WL.gT rfl rfl ?_
        refine WL.val (Val.moveI rfl) rfl ?_
        refine WL.gT rfl rfl ?_
        refine WL.val (Val.gtr rfl rfl (decide_eq_false (by omega))) rfl ?_
        refine WL.val (Val.pick rfl) rfl ?_
        refine WL.nil ?_
        refine WX.thenC ?_
        refine WC.condF rfl ?_
        refine WC.skip ?_
        refine WX.thenC ?_
        refine WC.seq ?_
        refine WC.cutP (fun ρ' I' L' => ∃ g1 g2 g3, I' = I ∧ L' = [F, box g1 23 [.int .i64 x, .int .i64 y], box g2 23 [.int .i64 0, .int .i64 0], box g3 23 [.int .i64 (snap x g), .int .i64 (snap y g)]] ∧ ρ' 6 = .pointer (some ⟨g3, 0, none⟩) ∧ ρ' 4 = .pointer (some ⟨g2, 0, none⟩)) ?_ ?_
        · skip
          refine WC.drawK 999 I [1] rfl (by kernel_rfl) rfl rfl ?_
          refine WA.take 0 rfl (by kernel_rfl) rfl (fun w h => (h.sub [1] rfl)) (Val.fieldAddr rfl) rfl ?_
          refine WA.take 1 rfl (by kernel_rfl) rfl (fun w h => (h.sub [1] rfl)) (Val.loadS rfl (Rd.own1 0 rfl rfl)) rfl ?_
          refine WA.take 2 rfl (by kernel_rfl) rfl (fun w h => (h.sub [1] rfl)) (Val.moveI rfl) rfl ?_
          refine WA.take 4 rfl (by kernel_rfl) rfl (fun w h => (h.sub [1] rfl)) (Val.fieldAddr rfl) rfl ?_
          refine WA.take 5 rfl (by kernel_rfl) rfl (fun w h => (h.sub [1] rfl)) (Val.loadS rfl (Rd.own1 0 rfl rfl)) rfl ?_
          refine WA.take 6 rfl (by kernel_rfl) rfl (fun w h => (h.sub [1] rfl)) (Val.moveI rfl) rfl ?_
          refine WA.eff2 (i := 3) (j := 9) (by kernel_rfl) rfl rfl rfl rfl ?_ ?_
          · refine WL.callS rfl rfl cx rfl ?_
            rintro _ rfl
            refine WL.nil ?_
            refine WK.anyStep (fun w h => (h.sub [1] rfl)) ?_
            refine WA.eff2 (i := 7) (j := 9) (by kernel_rfl) rfl rfl rfl rfl ?_ ?_
            · refine WL.callS rfl rfl cy rfl ?_
              rintro _ rfl
              refine WL.nil ?_
              refine WK.anyStep (fun w h => (h.sub [1] rfl)) ?_
              refine WA.take 8 rfl (by kernel_rfl) rfl (fun w h => (h.sub [1] rfl)) (Val.build rfl) rfl ?_
              refine WA.eff1 (i := 9) (by kernel_rfl) rfl rfl ?_
              (refine WL.alloc rfl ?_; intro _)
              refine WL.nil ?_
              refine WK.anyStep (fun w h => (h.sub [1] rfl)) ?_
              refine WA.eff1 (i := 10) (by kernel_rfl) rfl rfl ?_
              refine WL.store 3 rfl rfl rfl ?_
              refine WL.nil ?_
              refine WK.anyStep (fun w h => (h.sub [1] rfl)) ?_
              refine WA.done (by kernel_rfl) ?_
              refine WX.thenK (WK.meet ?_)
              exact ⟨_, _, _, rfl, rfl, rfl, rfl⟩
            · skip
              (refine WL.alloc rfl ?_; intro _)
              refine WL.nil ?_
              refine WK.anyStep (fun w h => (h.sub [1] rfl)) ?_
              refine WA.eff1 (i := 7) (by kernel_rfl) rfl rfl ?_
              refine WL.callS rfl rfl cy rfl ?_
              rintro _ rfl
              refine WL.nil ?_
              refine WK.anyStep (fun w h => (h.sub [1] rfl)) ?_
              refine WA.take 8 rfl (by kernel_rfl) rfl (fun w h => (h.sub [1] rfl)) (Val.build rfl) rfl ?_
              refine WA.eff1 (i := 10) (by kernel_rfl) rfl rfl ?_
              refine WL.store 3 rfl rfl rfl ?_
              refine WL.nil ?_
              refine WK.anyStep (fun w h => (h.sub [1] rfl)) ?_
              refine WA.done (by kernel_rfl) ?_
              refine WX.thenK (WK.meet ?_)
              exact ⟨_, _, _, rfl, rfl, rfl, rfl⟩
          · skip
            (refine WL.alloc rfl ?_; intro _)
            refine WL.nil ?_
            refine WK.anyStep (fun w h => (h.sub [1] rfl)) ?_
            refine WA.eff1 (i := 3) (by kernel_rfl) rfl rfl ?_
            refine WL.callS rfl rfl cx rfl ?_
            rintro _ rfl
            refine WL.nil ?_
            refine WK.anyStep (fun w h => (h.sub [1] rfl)) ?_
            refine WA.eff1 (i := 7) (by kernel_rfl) rfl rfl ?_
            refine WL.callS rfl rfl cy rfl ?_
            rintro _ rfl
            refine WL.nil ?_
            refine WK.anyStep (fun w h => (h.sub [1] rfl)) ?_
            refine WA.take 8 rfl (by kernel_rfl) rfl (fun w h => (h.sub [1] rfl)) (Val.build rfl) rfl ?_
            refine WA.eff1 (i := 10) (by kernel_rfl) rfl rfl ?_
            refine WL.store 3 rfl rfl rfl ?_
            refine WL.nil ?_
            refine WK.anyStep (fun w h => (h.sub [1] rfl)) ?_
            refine WA.done (by kernel_rfl) ?_
            refine WX.thenK (WK.meet ?_)
            exact ⟨_, _, _, rfl, rfl, rfl, rfl⟩
        · rintro ρ' I' L' ⟨g1, g2, g3, rfl, rfl, h6, h4⟩
          rw [← upd_self h6, ← upd_self h4]
          clear h6 h4
          refine WC.seq ?_
          refine WC.seq ?_
          refine WC.region ?_
          refine WL.val (Val.loadO 3 rfl rfl rfl) rfl ?_
          refine WL.callS rfl rfl (pin_ctr (snap x g) (snap y g) _) rfl ?_
          rintro _ rfl
          cases hq : inR (snap x g) && inR (snap y g)
          · skip
            refine WL.val (Val.not rfl) rfl ?_
            refine WL.nil ?_
            refine WX.thenC ?_
            refine WC.condT rfl ?_
            refine WC.seq ?_
            refine WC.region ?_
            refine WL.val (Val.build rfl) rfl ?_
            refine WL.store 2 rfl rfl rfl ?_
            refine WL.val (Val.assignI rfl) rfl ?_
            refine WL.nil ?_
            refine WX.thenC ?_
            refine WC.ret ?_
            refine WX.thenRet ?_
            apply WX.doneR (ks := [])
            case hres => exact RunRes.r2 rfl (ResIs.cellO 2 rfl rfl rfl) (ResIs.tmpI rfl)
            case hp => rfl
            case hI => exact Mem.le.refl _
            refine ⟨rfl, rfl, ?_⟩
            show Value.tuple #[.agg #[.int .i64 0, .int .i64 0], .int .i64 10] = _
            simp [snapA, hp, show 1 ≤ g by omega, show g ≤ 1048576 by omega, hq]
          · skip
            refine WL.val (Val.not rfl) rfl ?_
            refine WL.nil ?_
            refine WX.thenC ?_
            refine WC.condF rfl ?_
            refine WC.skip ?_
            refine WX.thenC ?_
            refine WC.seq ?_
            refine WC.region ?_
            refine WL.val (Val.loadO 3 rfl rfl rfl) rfl ?_
            refine WL.store 2 rfl rfl rfl ?_
            refine WL.val (Val.assignI rfl) rfl ?_
            refine WL.nil ?_
            refine WX.thenC ?_
            refine WC.ret ?_
            apply WX.doneR (ks := [])
            case hres => exact RunRes.r2 rfl (ResIs.cellO 2 rfl rfl rfl) (ResIs.tmpI rfl)
            case hp => rfl
            case hI => exact Mem.le.refl _
            refine ⟨rfl, rfl, ?_⟩
            show Value.tuple #[.agg #[.int .i64 (snap x g), .int .i64 (snap y g)], .int .i64 0] = _
            simp [snapA, hp, show 1 ≤ g by omega, show g ≤ 1048576 by omega, hq]
theorem awake_ctr (I : Mem) : Ctr Try.prog 6 [] I [] (Still I fun v => v = .bool true) := by
  refine Ctr.intro Try.func6 rfl rfl rfl fun E F => ?_
  refine WC.seq ?_
  refine WC.region ?_
  refine WL.val (Val.assignB rfl) rfl ?_
  refine WL.nil ?_
  refine WX.thenC ?_
  refine WC.seq ?_
  refine WC.region ?_
  refine WL.val (Val.build rfl) rfl ?_
  refine WL.callS rfl rfl (snap_ctr 130 (-1) 256 I) rfl ?_
  intro v hv
  rw [show snapA 130 (-1) 256 = .tuple #[.agg #[.int .i64 256, .int .i64 0], .int .i64 0] by simp [snapA, inR, snap]] at hv
  subst hv
  refine WL.val (Val.moveT rfl) rfl ?_
  refine WL.val (Val.extractA rfl rfl) rfl ?_
  refine WL.val (Val.extractI rfl rfl) rfl ?_
  (refine WL.alloc rfl ?_; intro _)
  refine WL.store 1 rfl rfl rfl ?_
  refine WL.val (Val.assignI rfl) rfl ?_
  refine WL.nil ?_
  refine WX.thenC ?_
  refine WC.seq ?_
  refine WC.region ?_
  refine WL.val (Val.moveI rfl) rfl ?_
  refine WL.val (Val.eql rfl rfl (beq_iff_eq.2 (by omega))) rfl ?_
  refine WL.val (Val.moveB rfl) rfl ?_
  refine WL.gT rfl rfl ?_
  refine WL.val (Val.loadO 1 rfl rfl rfl) rfl ?_
  refine WL.gT rfl rfl ?_
  refine WL.val (Val.build rfl) rfl ?_
  refine WL.gT rfl rfl ?_
  refine WL.val (Val.eqlSame rfl rfl rfl) rfl ?_
  refine WL.val (Val.pick rfl) rfl ?_
  refine WL.val (Val.assignB rfl) rfl ?_
  refine WL.nil ?_
  refine WX.thenC ?_
  refine WC.ret ?_
  apply WX.doneR (ks := [])
  case hres => exact RunRes.r1 rfl (ResIs.tmpB rfl)
  case hp => rfl
  case hI => first | exact Mem.le.refl _ | assumption
  exact ⟨rfl, rfl, rfl⟩
theorem snap_snap (n g : Int) (h : 1 ≤ g) : snap (snap n g) g = snap n g := by
  unfold snap
  generalize (2 * n + g) / (2 * g) = q
  have : (2 * (q * g) + g) / (2 * g) = q := by
    rw [Int.ediv_eq_iff_of_pos (by omega)]
    have c1 : q * (2 * g) = 2 * (q * g) := by rw [← Int.mul_assoc, Int.mul_comm q 2, Int.mul_assoc]
    omega
  rw [this]
theorem law_ctr (x y g : Int) (I : Mem) : Ctr Try.prog 3 [.agg #[.int .i64 x, .int .i64 y], .int .i64 g] I [] (Still I fun v => v = .bool true) := by
  refine Ctr.intro Try.func3 rfl rfl rfl fun E F => ?_
  refine WC.seq ?_
  refine WC.region ?_
  (refine WL.box rfl rfl ?_; intro _)
  refine WL.val (Val.assignB rfl) rfl ?_
  refine WL.nil ?_
  refine WX.thenC ?_
  refine WC.seq ?_
  refine WC.region ?_
  refine WL.val (Val.loadO 1 rfl rfl rfl) rfl ?_
  refine WL.val (Val.moveI rfl) rfl ?_
  refine WL.callS rfl rfl (snap_ctr x y g I) rfl ?_
  intro v hv
  cases hp : inR x && inR y
  · rw [show snapA x y g = .tuple #[.agg #[.int .i64 0, .int .i64 0], .int .i64 30] by simp [snapA, hp]] at hv
    subst hv
    refine WL.val (Val.moveT rfl) rfl ?_
    refine WL.val (Val.extractA rfl rfl) rfl ?_
    refine WL.val (Val.extractI rfl rfl) rfl ?_
    (refine WL.alloc rfl ?_; intro _)
    refine WL.store 2 rfl rfl rfl ?_
    refine WL.val (Val.assignI rfl) rfl ?_
    refine WL.nil ?_
    refine WX.thenC ?_
    refine WC.seq ?_
    refine WC.seq ?_
    refine WC.region ?_
    refine WL.val (Val.loadO 1 rfl rfl rfl) rfl ?_
    refine WL.callS rfl rfl (lin_ctr x y I) rfl ?_
    rintro v hv
    rw [hp] at hv; subst hv
    refine WL.val (Val.not rfl) rfl ?_
    refine WL.val (Val.moveB rfl) rfl ?_
    refine WL.gF rfl rfl rfl rfl ?_
    refine WL.gF rfl rfl rfl rfl ?_
    refine WL.val (Val.pick rfl) rfl ?_
    refine WL.val (Val.moveB rfl) rfl ?_
    refine WL.gF rfl rfl rfl rfl ?_
    refine WL.gF rfl rfl rfl rfl ?_
    refine WL.val (Val.pick rfl) rfl ?_
    refine WL.nil ?_
    refine WX.thenC ?_
    refine WC.condT rfl ?_
    refine WC.seq ?_
    refine WC.region ?_
    refine WL.val (Val.moveI rfl) rfl ?_
    refine WL.val (Val.eql rfl rfl (beq_iff_eq.2 (by omega))) rfl ?_
    refine WL.val (Val.moveB rfl) rfl ?_
    refine WL.gT rfl rfl ?_
    refine WL.val (Val.loadO 2 rfl rfl rfl) rfl ?_
    refine WL.gT rfl rfl ?_
    refine WL.val (Val.build rfl) rfl ?_
    refine WL.gT rfl rfl ?_
    refine WL.val (Val.eqlSame rfl rfl rfl) rfl ?_
    refine WL.val (Val.pick rfl) rfl ?_
    refine WL.val (Val.moveB rfl) rfl ?_
    refine WL.gT rfl rfl ?_
    refine WL.callS rfl rfl (awake_ctr I) rfl ?_
    rintro _ rfl
    refine WL.val (Val.pick rfl) rfl ?_
    refine WL.val (Val.assignB rfl) rfl ?_
    refine WL.nil ?_
    refine WX.thenC ?_
    refine WC.ret ?_
    refine WX.thenRet ?_
    apply WX.doneR (ks := [])
    case hres => exact RunRes.r1 rfl (ResIs.tmpB rfl)
    case hp => rfl
    case hI => first | exact Mem.le.refl _ | assumption
    exact ⟨rfl, rfl, rfl⟩
  · by_cases hg : 1 ≤ g ∧ g ≤ 1048576
    · obtain ⟨hg1, hg2⟩ := hg
      have hx := inR_iff (Bool.and_eq_true _ _ ▸ hp : inR x = true ∧ inR y = true).1
      have hy := inR_iff (Bool.and_eq_true _ _ ▸ hp : inR x = true ∧ inR y = true).2
      have cx := rsnap_ctr x g I hx.1 hx.2 (by omega) (by omega)
      have cy := rsnap_ctr y g I hy.1 hy.2 (by omega) (by omega)
      obtain ⟨qx, qy, e, rfl, hF, hT⟩ : ∃ qx qy e : Int, v = .tuple #[.agg #[.int .i64 qx, .int .i64 qy], .int .i64 e] ∧ ((inR (snap x g) && inR (snap y g)) = false → qx = 0 ∧ qy = 0 ∧ e = 10) ∧
          ((inR (snap x g) && inR (snap y g)) = true → qx = snap x g ∧ qy = snap y g ∧ e = 0) := by
        have hsA : snapA x y g = if inR (snap x g) && inR (snap y g) then .tuple #[.agg #[.int .i64 (snap x g), .int .i64 (snap y g)], .int .i64 0] else .tuple #[.agg #[.int .i64 0, .int .i64 0], .int .i64 10] := by simp [snapA, hp, hg1, hg2]
        rw [hsA] at hv
        cases hq : inR (snap x g) && inR (snap y g)
        · rw [hq] at hv; exact ⟨0, 0, 10, hv, ⟨fun _ => ⟨rfl, rfl, rfl⟩, fun h => absurd h (by decide)⟩⟩
        · rw [hq] at hv; exact ⟨_, _, _, hv, ⟨fun h => absurd h (by decide), fun _ => ⟨rfl, rfl, rfl⟩⟩⟩
      clear hv
      refine WL.val (Val.moveT rfl) rfl ?_
      refine WL.val (Val.extractA rfl rfl) rfl ?_
      refine WL.val (Val.extractI rfl rfl) rfl ?_
      (refine WL.alloc rfl ?_; intro _)
      refine WL.store 2 rfl rfl rfl ?_
      refine WL.val (Val.assignI rfl) rfl ?_
      refine WL.nil ?_
      refine WX.thenC ?_
      refine WC.seq ?_
      refine WC.seq ?_
      refine WC.region ?_
      refine WL.val (Val.loadO 1 rfl rfl rfl) rfl ?_
      refine WL.callS rfl rfl (lin_ctr x y I) rfl ?_
      intro v hv
      rw [hp] at hv; subst hv
      refine WL.val (Val.not rfl) rfl ?_
      refine WL.val (Val.moveB rfl) rfl ?_
      refine WL.gT rfl rfl ?_
      refine WL.val (Val.moveI rfl) rfl ?_
      refine WL.gT rfl rfl ?_
      refine WL.val (Val.lss rfl rfl (decide_eq_false (by omega))) rfl ?_
      refine WL.val (Val.pick rfl) rfl ?_
      refine WL.val (Val.moveB rfl) rfl ?_
      refine WL.gT rfl rfl ?_
      refine WL.val (Val.moveI rfl) rfl ?_
      refine WL.gT rfl rfl ?_
      refine WL.val (Val.gtr rfl rfl (decide_eq_false (by omega))) rfl ?_
      refine WL.val (Val.pick rfl) rfl ?_
      refine WL.nil ?_
      refine WX.thenC ?_
      refine WC.condF rfl ?_
      refine WC.skip ?_
      refine WX.thenC ?_
      refine WC.seq ?_
      refine WC.cutP (fun ρ' I' L' => ∃ g1 g2 g3, I' = I ∧ L' = [F, box g1 23 [.int .i64 x, .int .i64 y], box g2 23 [.int .i64 qx, .int .i64 qy], box g3 23 [.int .i64 (snap x g), .int .i64 (snap y g)]] ∧
        ρ' 1 = .int .i64 g ∧ ρ' 5 = .pointer (some ⟨g2, 0, none⟩) ∧ ρ' 6 = .int .i64 e ∧ ρ' 7 = .pointer (some ⟨g3, 0, none⟩)) ?_ ?_
      · skip
        refine WC.drawK 999 I [1] rfl (by kernel_rfl) rfl rfl ?_
        refine WA.take 0 rfl (by kernel_rfl) rfl (fun w h => (h.sub [1] rfl)) (Val.fieldAddr rfl) rfl ?_
        refine WA.take 1 rfl (by kernel_rfl) rfl (fun w h => (h.sub [1] rfl)) (Val.loadS rfl (Rd.own1 0 rfl rfl)) rfl ?_
        refine WA.take 2 rfl (by kernel_rfl) rfl (fun w h => (h.sub [1] rfl)) (Val.moveI rfl) rfl ?_
        refine WA.take 4 rfl (by kernel_rfl) rfl (fun w h => (h.sub [1] rfl)) (Val.fieldAddr rfl) rfl ?_
        refine WA.take 5 rfl (by kernel_rfl) rfl (fun w h => (h.sub [1] rfl)) (Val.loadS rfl (Rd.own1 0 rfl rfl)) rfl ?_
        refine WA.take 6 rfl (by kernel_rfl) rfl (fun w h => (h.sub [1] rfl)) (Val.moveI rfl) rfl ?_
        refine WA.eff2 (i := 3) (j := 9) (by kernel_rfl) rfl rfl rfl rfl ?_ ?_
        · refine WL.callS rfl rfl cx rfl ?_
          rintro _ rfl
          refine WL.nil ?_
          refine WK.anyStep (fun w h => (h.sub [1] rfl)) ?_
          refine WA.eff2 (i := 7) (j := 9) (by kernel_rfl) rfl rfl rfl rfl ?_ ?_
          · refine WL.callS rfl rfl cy rfl ?_
            rintro _ rfl
            refine WL.nil ?_
            refine WK.anyStep (fun w h => (h.sub [1] rfl)) ?_
            refine WA.take 8 rfl (by kernel_rfl) rfl (fun w h => (h.sub [1] rfl)) (Val.build rfl) rfl ?_
            refine WA.eff1 (i := 9) (by kernel_rfl) rfl rfl ?_
            (refine WL.alloc rfl ?_; intro _)
            refine WL.nil ?_
            refine WK.anyStep (fun w h => (h.sub [1] rfl)) ?_
            refine WA.eff1 (i := 10) (by kernel_rfl) rfl rfl ?_
            refine WL.store 3 rfl rfl rfl ?_
            refine WL.nil ?_
            refine WK.anyStep (fun w h => (h.sub [1] rfl)) ?_
            refine WA.done (by kernel_rfl) ?_
            refine WX.thenK (WK.meet ?_)
            exact ⟨_, _, _, rfl, rfl, rfl, rfl, rfl, rfl⟩
          · skip
            (refine WL.alloc rfl ?_; intro _)
            refine WL.nil ?_
            refine WK.anyStep (fun w h => (h.sub [1] rfl)) ?_
            refine WA.eff1 (i := 7) (by kernel_rfl) rfl rfl ?_
            refine WL.callS rfl rfl cy rfl ?_
            rintro _ rfl
            refine WL.nil ?_
            refine WK.anyStep (fun w h => (h.sub [1] rfl)) ?_
            refine WA.take 8 rfl (by kernel_rfl) rfl (fun w h => (h.sub [1] rfl)) (Val.build rfl) rfl ?_
            refine WA.eff1 (i := 10) (by kernel_rfl) rfl rfl ?_
            refine WL.store 3 rfl rfl rfl ?_
            refine WL.nil ?_
            refine WK.anyStep (fun w h => (h.sub [1] rfl)) ?_
            refine WA.done (by kernel_rfl) ?_
            refine WX.thenK (WK.meet ?_)
            exact ⟨_, _, _, rfl, rfl, rfl, rfl, rfl, rfl⟩
        · skip
          (refine WL.alloc rfl ?_; intro _)
          refine WL.nil ?_
          refine WK.anyStep (fun w h => (h.sub [1] rfl)) ?_
          refine WA.eff1 (i := 3) (by kernel_rfl) rfl rfl ?_
          refine WL.callS rfl rfl cx rfl ?_
          rintro _ rfl
          refine WL.nil ?_
          refine WK.anyStep (fun w h => (h.sub [1] rfl)) ?_
          refine WA.eff1 (i := 7) (by kernel_rfl) rfl rfl ?_
          refine WL.callS rfl rfl cy rfl ?_
          rintro _ rfl
          refine WL.nil ?_
          refine WK.anyStep (fun w h => (h.sub [1] rfl)) ?_
          refine WA.take 8 rfl (by kernel_rfl) rfl (fun w h => (h.sub [1] rfl)) (Val.build rfl) rfl ?_
          refine WA.eff1 (i := 10) (by kernel_rfl) rfl rfl ?_
          refine WL.store 3 rfl rfl rfl ?_
          refine WL.nil ?_
          refine WK.anyStep (fun w h => (h.sub [1] rfl)) ?_
          refine WA.done (by kernel_rfl) ?_
          refine WX.thenK (WK.meet ?_)
          exact ⟨_, _, _, rfl, rfl, rfl, rfl, rfl, rfl⟩
      · rintro ρ' I' L' ⟨g1, g2, g3, hI, rfl, r1, r5, r6, r7⟩
        subst hI
        rw [← upd_self r1, ← upd_self r5, ← upd_self r6, ← upd_self r7]
        clear r1 r5 r6 r7
        refine WC.seq ?_
        refine WC.seq ?_
        refine WC.region ?_
        refine WL.val (Val.loadO 3 rfl rfl rfl) rfl ?_
        refine WL.callS rfl rfl (lin_ctr (snap x g) (snap y g) _) rfl ?_
        intro v hv
        cases hq : inR (snap x g) && inR (snap y g)
        · obtain ⟨rfl, rfl, rfl⟩ := hF hq
          rw [hq] at hv; subst hv
          refine WL.val (Val.not rfl) rfl ?_
          refine WL.nil ?_
          refine WX.thenC ?_
          refine WC.condT rfl ?_
          refine WC.seq ?_
          refine WC.region ?_
          refine WL.val (Val.moveI rfl) rfl ?_
          refine WL.val (Val.eql rfl rfl (beq_iff_eq.2 (by omega))) rfl ?_
          refine WL.val (Val.moveB rfl) rfl ?_
          refine WL.gT rfl rfl ?_
          refine WL.val (Val.loadO 2 rfl rfl rfl) rfl ?_
          refine WL.gT rfl rfl ?_
          refine WL.val (Val.build rfl) rfl ?_
          refine WL.gT rfl rfl ?_
          refine WL.val (Val.eqlSame rfl rfl rfl) rfl ?_
          refine WL.val (Val.pick rfl) rfl ?_
          refine WL.val (Val.moveB rfl) rfl ?_
          refine WL.gT rfl rfl ?_
          refine WL.callS rfl rfl (awake_ctr _) rfl ?_
          rintro _ rfl
          refine WL.val (Val.pick rfl) rfl ?_
          refine WL.val (Val.assignB rfl) rfl ?_
          refine WL.nil ?_
          refine WX.thenC ?_
          refine WC.ret ?_
          refine WX.thenRet ?_
          apply WX.doneR (ks := [])
          case hres => exact RunRes.r1 rfl (ResIs.tmpB rfl)
          case hp => rfl
          case hI => first | exact Mem.le.refl _ | assumption
          exact ⟨rfl, rfl, rfl⟩
        · obtain ⟨rfl, rfl, rfl⟩ := hT hq
          rw [hq] at hv; subst hv
          have hA : snapA (snap x g) (snap y g) g = .tuple #[.agg #[.int .i64 (snap x g), .int .i64 (snap y g)], .int .i64 0] := by
            simp [snapA, hq, hg1, hg2, snap_snap]
          refine WL.val (Val.not rfl) rfl ?_
          refine WL.nil ?_
          refine WX.thenC ?_
          refine WC.condF rfl ?_
          refine WC.skip ?_
          refine WX.thenC ?_
          refine WC.seq ?_
          refine WC.region ?_
          refine WL.val (Val.loadO 2 rfl rfl rfl) rfl ?_
          refine WL.val (Val.moveI rfl) rfl ?_
          refine WL.callS rfl rfl (snap_ctr (snap x g) (snap y g) g _) rfl ?_
          intro v hv
          rw [hA] at hv; subst hv
          refine WL.val (Val.moveT rfl) rfl ?_
          refine WL.val (Val.extractA rfl rfl) rfl ?_
          refine WL.val (Val.extractI rfl rfl) rfl ?_
          (refine WL.alloc rfl ?_; intro _)
          refine WL.store 4 rfl rfl rfl ?_
          refine WL.val (Val.assignI rfl) rfl ?_
          refine WL.nil ?_
          refine WX.thenC ?_
          refine WC.seq ?_
          refine WC.region ?_
          refine WL.val (Val.moveI rfl) rfl ?_
          refine WL.val (Val.eql rfl rfl (beq_iff_eq.2 (by omega))) rfl ?_
          refine WL.val (Val.moveB rfl) rfl ?_
          refine WL.gT rfl rfl ?_
          refine WL.val (Val.loadO 2 rfl rfl rfl) rfl ?_
          refine WL.gT rfl rfl ?_
          refine WL.val (Val.loadO 3 rfl rfl rfl) rfl ?_
          refine WL.gT rfl rfl ?_
          refine WL.val (Val.eqlSame rfl rfl rfl) rfl ?_
          refine WL.val (Val.pick rfl) rfl ?_
          refine WL.val (Val.moveB rfl) rfl ?_
          refine WL.gT rfl rfl ?_
          refine WL.val (Val.moveI rfl) rfl ?_
          refine WL.gT rfl rfl ?_
          refine WL.val (Val.eql rfl rfl (beq_iff_eq.2 (by omega))) rfl ?_
          refine WL.val (Val.pick rfl) rfl ?_
          refine WL.val (Val.moveB rfl) rfl ?_
          refine WL.gT rfl rfl ?_
          refine WL.val (Val.loadO 4 rfl rfl rfl) rfl ?_
          refine WL.gT rfl rfl ?_
          refine WL.val (Val.loadO 2 rfl rfl rfl) rfl ?_
          refine WL.gT rfl rfl ?_
          refine WL.val (Val.eqlSame rfl rfl rfl) rfl ?_
          refine WL.val (Val.pick rfl) rfl ?_
          refine WL.val (Val.moveB rfl) rfl ?_
          refine WL.gT rfl rfl ?_
          refine WL.callS rfl rfl (awake_ctr _) rfl ?_
          rintro _ rfl
          refine WL.val (Val.pick rfl) rfl ?_
          refine WL.val (Val.assignB rfl) rfl ?_
          refine WL.nil ?_
          refine WX.thenC ?_
          refine WC.ret ?_
          apply WX.doneR (ks := [])
          case hres => exact RunRes.r1 rfl (ResIs.tmpB rfl)
          case hp => rfl
          case hI => first | exact Mem.le.refl _ | assumption
          exact ⟨rfl, rfl, rfl⟩
    · rw [show snapA x y g = .tuple #[.agg #[.int .i64 0, .int .i64 0], .int .i64 30] by simp [snapA, hp]; omega] at hv
      subst hv
      refine WL.val (Val.moveT rfl) rfl ?_
      refine WL.val (Val.extractA rfl rfl) rfl ?_
      refine WL.val (Val.extractI rfl rfl) rfl ?_
      (refine WL.alloc rfl ?_; intro _)
      refine WL.store 2 rfl rfl rfl ?_
      refine WL.val (Val.assignI rfl) rfl ?_
      refine WL.nil ?_
      refine WX.thenC ?_
      refine WC.seq ?_
      refine WC.seq ?_
      refine WC.region ?_
      refine WL.val (Val.loadO 1 rfl rfl rfl) rfl ?_
      refine WL.callS rfl rfl (lin_ctr x y I) rfl ?_
      rintro v hv
      rw [hp] at hv; subst hv
      by_cases hg1 : g < 1
      · skip
        refine WL.val (Val.not rfl) rfl ?_
        refine WL.val (Val.moveB rfl) rfl ?_
        refine WL.gT rfl rfl ?_
        refine WL.val (Val.moveI rfl) rfl ?_
        refine WL.gT rfl rfl ?_
        refine WL.val (Val.lss rfl rfl (decide_eq_true (by omega))) rfl ?_
        refine WL.val (Val.pick rfl) rfl ?_
        refine WL.val (Val.moveB rfl) rfl ?_
        refine WL.gF rfl rfl rfl rfl ?_
        refine WL.gF rfl rfl rfl rfl ?_
        refine WL.val (Val.pick rfl) rfl ?_
        refine WL.nil ?_
        refine WX.thenC ?_
        refine WC.condT rfl ?_
        refine WC.seq ?_
        refine WC.region ?_
        refine WL.val (Val.moveI rfl) rfl ?_
        refine WL.val (Val.eql rfl rfl (beq_iff_eq.2 (by omega))) rfl ?_
        refine WL.val (Val.moveB rfl) rfl ?_
        refine WL.gT rfl rfl ?_
        refine WL.val (Val.loadO 2 rfl rfl rfl) rfl ?_
        refine WL.gT rfl rfl ?_
        refine WL.val (Val.build rfl) rfl ?_
        refine WL.gT rfl rfl ?_
        refine WL.val (Val.eqlSame rfl rfl rfl) rfl ?_
        refine WL.val (Val.pick rfl) rfl ?_
        refine WL.val (Val.moveB rfl) rfl ?_
        refine WL.gT rfl rfl ?_
        refine WL.callS rfl rfl (awake_ctr I) rfl ?_
        rintro _ rfl
        refine WL.val (Val.pick rfl) rfl ?_
        refine WL.val (Val.assignB rfl) rfl ?_
        refine WL.nil ?_
        refine WX.thenC ?_
        refine WC.ret ?_
        refine WX.thenRet ?_
        apply WX.doneR (ks := [])
        case hres => exact RunRes.r1 rfl (ResIs.tmpB rfl)
        case hp => rfl
        case hI => first | exact Mem.le.refl _ | assumption
        exact ⟨rfl, rfl, rfl⟩
      · skip
        refine WL.val (Val.not rfl) rfl ?_
        refine WL.val (Val.moveB rfl) rfl ?_
        refine WL.gT rfl rfl ?_
        refine WL.val (Val.moveI rfl) rfl ?_
        refine WL.gT rfl rfl ?_
        refine WL.val (Val.lss rfl rfl (decide_eq_false (by omega))) rfl ?_
        refine WL.val (Val.pick rfl) rfl ?_
        refine WL.val (Val.moveB rfl) rfl ?_
        refine WL.gT rfl rfl ?_
        refine WL.val (Val.moveI rfl) rfl ?_
        refine WL.gT rfl rfl ?_
        refine WL.val (Val.gtr rfl rfl (decide_eq_true (by omega))) rfl ?_
        refine WL.val (Val.pick rfl) rfl ?_
        refine WL.nil ?_
        refine WX.thenC ?_
        refine WC.condT rfl ?_
        refine WC.seq ?_
        refine WC.region ?_
        refine WL.val (Val.moveI rfl) rfl ?_
        refine WL.val (Val.eql rfl rfl (beq_iff_eq.2 (by omega))) rfl ?_
        refine WL.val (Val.moveB rfl) rfl ?_
        refine WL.gT rfl rfl ?_
        refine WL.val (Val.loadO 2 rfl rfl rfl) rfl ?_
        refine WL.gT rfl rfl ?_
        refine WL.val (Val.build rfl) rfl ?_
        refine WL.gT rfl rfl ?_
        refine WL.val (Val.eqlSame rfl rfl rfl) rfl ?_
        refine WL.val (Val.pick rfl) rfl ?_
        refine WL.val (Val.moveB rfl) rfl ?_
        refine WL.gT rfl rfl ?_
        refine WL.callS rfl rfl (awake_ctr I) rfl ?_
        rintro _ rfl
        refine WL.val (Val.pick rfl) rfl ?_
        refine WL.val (Val.assignB rfl) rfl ?_
        refine WL.nil ?_
        refine WX.thenC ?_
        refine WC.ret ?_
        refine WX.thenRet ?_
        apply WX.doneR (ks := [])
        case hres => exact RunRes.r1 rfl (ResIs.tmpB rfl)
        case hp => rfl
        case hI => first | exact Mem.le.refl _ | assumption
        exact ⟨rfl, rfl, rfl⟩
end Go.Proofs.Ytfdeckdongonnaa
