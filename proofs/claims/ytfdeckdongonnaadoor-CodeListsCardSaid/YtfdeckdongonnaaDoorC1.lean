/-
  Code, the walks: numbers in bytes.
-/
import Derived.Test.YtfdeckdongonnaaDoorFacts
import Derived.Test.YtfdeckdongonnaaDoorC0
namespace Go.Proofs.YtfdeckdongonnaaDoor
open Go.Sl Go.Cd
set_option maxRecDepth 100000
set_option linter.unusedVariables false
attribute [local irreducible] WC WL WX WK WA WAK Val Ctr RunRes ResIs Rd At sl box pt Exit.then Exit.inBlock bodyPost Code.wp wpList
abbrev ptr (b : Nat) : Value := .pointer (some ⟨b, 0, none⟩)
instance : BytesStrK Tryd.prog 22 9 := ⟨5, by kernel_rfl, by kernel_rfl, by kernel_rfl⟩
instance : StrK Tryd.prog 9 := ⟨by kernel_rfl⟩
theorem or8 (x : Nat) (h : x < 256) : Go.bits .or .u8 (x : Int) 128 = ((x % 128 + 128 : Nat) : Int) := by
  have : ∀ x : Fin 256, Go.bits .or .u8 ((x.val : Nat) : Int) 128 = ((x.val % 128 + 128 : Nat) : Int) := by decide
  exact this ⟨x, h⟩
theorem andNot8 (x : Fin 256) : Go.bits .andNot .u8 (x.val : Int) 128 = ((x.val % 128 : Nat) : Int) := by
  have : ∀ x : Fin 256, Go.bits .andNot .u8 ((x.val : Nat) : Int) 128 = ((x.val % 128 : Nat) : Int) := by decide
  exact this x
theorem xor64_0 (x : Nat) (h : x < 18446744073709551616) : Go.bits .xor .u64 (x : Int) 0 = (x : Int) := by
  unfold Go.bits
  show IntKind.u64.wrap (((BitVec.ofInt 64 (x : Int)) ^^^ (BitVec.ofInt 64 0)).toNat : Int) = _
  have e1 : (BitVec.ofInt 64 (x : Int)).toNat = x := by simp; omega
  have e2 : (BitVec.ofInt 64 0) = 0#64 := rfl
  rw [e2, BitVec.xor_zero, e1, wrap_u64_eq]
  omega
theorem xor64_1 (x : Nat) (h : x < 18446744073709551616) : Go.bits .xor .u64 (x : Int) 18446744073709551615 = 18446744073709551615 - (x : Int) := by
  unfold Go.bits
  show IntKind.u64.wrap (((BitVec.ofInt 64 (x : Int)) ^^^ (BitVec.ofInt 64 18446744073709551615)).toNat : Int) = _
  have e1 : (BitVec.ofInt 64 (x : Int)).toNat = x := by simp; omega
  have e2 : (BitVec.ofInt 64 18446744073709551615) = BitVec.allOnes 64 := by rfl
  rw [e2, BitVec.xor_allOnes, BitVec.toNat_not, e1, wrap_u64_eq]
  omega
theorem xorI_0 (x : Nat) (h : x < 9223372036854775808) : Go.bits .xor .i64 (x : Int) 0 = (x : Int) := by
  unfold Go.bits
  show IntKind.i64.wrap (((BitVec.ofInt 64 (x : Int)) ^^^ (BitVec.ofInt 64 0)).toNat : Int) = _
  have e1 : (BitVec.ofInt 64 (x : Int)).toNat = x := by simp; omega
  have e2 : (BitVec.ofInt 64 0) = 0#64 := rfl
  rw [e2, BitVec.xor_zero, e1, wrap_i64_eq]
  omega
theorem xorI_1 (x : Nat) (h : x < 9223372036854775808) : Go.bits .xor .i64 (x : Int) (-1) = - (x : Int) - 1 := by
  unfold Go.bits
  show IntKind.i64.wrap (((BitVec.ofInt 64 (x : Int)) ^^^ (BitVec.ofInt 64 (-1))).toNat : Int) = _
  have e1 : (BitVec.ofInt 64 (x : Int)).toNat = x := by simp; omega
  have e2 : (BitVec.ofInt 64 (-1)) = BitVec.allOnes 64 := by rfl
  rw [e2, BitVec.xor_allOnes, BitVec.toNat_not, e1, wrap_i64_eq]
  omega
theorem or64 (x p s : Nat) (h : x < 2 ^ s) (h2 : x + p * 2 ^ s < 18446744073709551616) : Go.bits .or .u64 (x : Int) ((p * 2 ^ s : Nat) : Int) = ((x + p * 2 ^ s : Nat) : Int) := by
  unfold Go.bits
  show IntKind.u64.wrap (((BitVec.ofInt 64 (x : Int)) ||| (BitVec.ofInt 64 ((p * 2 ^ s : Nat) : Int))).toNat : Int) = _
  have e1 : (BitVec.ofInt 64 (x : Int)).toNat = x := by rw [BitVec.ofInt_natCast, BitVec.toNat_ofNat]; exact Nat.mod_eq_of_lt (by omega)
  have e2 : (BitVec.ofInt 64 ((p * 2 ^ s : Nat) : Int)).toNat = p * 2 ^ s := by rw [BitVec.ofInt_natCast, BitVec.toNat_ofNat]; exact Nat.mod_eq_of_lt (by omega)
  rw [BitVec.toNat_or, e1, e2, wrap_u64_eq, Nat.or_comm, Nat.mul_comm p, ← Nat.two_pow_add_eq_or_of_lt h]
  rw [Nat.mul_comm p] at h2
  clear e1 e2 h
  generalize 2 ^ s * p = q at *
  omega
theorem and64_1 (x : Nat) (h : x < 18446744073709551616) : Go.bits .and .u64 (x : Int) 1 = ((x % 2 : Nat) : Int) := by
  unfold Go.bits
  show IntKind.u64.wrap (((BitVec.ofInt 64 (x : Int)) &&& (BitVec.ofInt 64 1)).toNat : Int) = _
  have e1 : (BitVec.ofInt 64 (x : Int)).toNat = x := by simp; omega
  have e2 : (BitVec.ofInt 64 1).toNat = 2 ^ 1 - 1 := by rfl
  rw [BitVec.toNat_and, e1, e2, Nat.and_two_pow_sub_one_eq_mod, wrap_u64_eq]
  omega
theorem zig_code (n : Int) (h : I64 n) : Go.bits .xor .u64 (IntKind.u64.wrap (IntKind.u64.wrap n * 2 ^ min (1 : Int).toNat IntKind.u64.bits)) (IntKind.u64.wrap (n.fdiv (2 ^ min (63 : Int).toNat IntKind.i64.bits))) = (zig n : Int) := by
  obtain ⟨h0, h1⟩ := h
  have e1 : (2 : Int) ^ min (1 : Int).toNat IntKind.u64.bits = 2 := by rfl
  rw [e1, shr_i64 9223372036854775808 rfl (by decide), wrap_u64_eq n, wrap_u64_eq, wrap_u64_eq]
  by_cases hn : 0 ≤ n
  · have e : n % 18446744073709551616 * 2 % 18446744073709551616 = ((zig n : Nat) : Int) := by unfold zig; rw [if_pos hn]; omega
    have e2 : n / 9223372036854775808 % 18446744073709551616 = 0 := by omega
    rw [e, e2]
    exact xor64_0 _ (zig_lt ⟨h0, h1⟩)
  · have e : n % 18446744073709551616 * 2 % 18446744073709551616 = (((2 * n + 18446744073709551616).toNat : Nat) : Int) := by omega
    have e2 : n / 9223372036854775808 % 18446744073709551616 = 18446744073709551615 := by omega
    rw [e, e2, xor64_1 _ (by omega)]
    unfold zig
    rw [if_neg hn]
    omega
theorem sl_push (v : Value) (bs : Bs) (z : Nat) (h : z < 256) : sl 5 1 v (bs.length + 1) (bs.map byt ++ [.int .u8 (z : Nat)]) = sl 5 1 v (bs ++ [fb z]).length ((bs ++ [fb z]).map byt) := by
  rw [List.length_append, List.map_append, List.map_singleton, byt, fb_val h]
  rfl
/-- (*frame.Out).Int: a number's bytes are laid behind. -/
theorem outInt (o ty : Nat) (sv : Value) (tl : List Value) (bs : Bs) (n : Int) (I : Mem) (hn : I64 n) (hl : bs.length ≤ 1099511627776) :
    Ctr Tryd.prog 43 [ptr o, .int .i64 n] I [box o ty (sv :: tl), sl 5 1 sv bs.length (bs.map byt)]
      (fun v I' L' => I' = I ∧ v = ptr o ∧ ∃ sv', L' = [box o ty (sv' :: tl), sl 5 1 sv' (bs ++ eInt n).length ((bs ++ eInt n).map byt)]) := by
  refine Ctr.intro Tryd.func43 rfl rfl rfl fun E F => ?_
  refine WC.seq ?_
  refine WC.region ?_
  refine WL.val (Val.assignP rfl) rfl ?_
  refine WL.nil ?_
  refine WX.thenC ?_
  refine WC.seq ?_
  refine WC.region ?_
  refine WL.val (Val.moveI rfl) rfl ?_
  refine WL.val (Val.convert rfl rfl) rfl ?_
  refine WL.val (Val.shl rfl rfl (by decide) rfl) rfl ?_
  refine WL.val (Val.moveI rfl) rfl ?_
  refine WL.val (Val.shr rfl rfl (by decide) rfl) rfl ?_
  refine WL.val (Val.convert rfl rfl) rfl ?_
  refine WL.val (Val.xor rfl rfl (zig_code n hn)) rfl ?_
  refine WL.val (Val.assignI rfl) rfl ?_
  refine WL.nil ?_
  refine WX.thenC ?_
  refine WC.seq ?_
  refine WC.block ?_
  refine WC.loop (fun z ρ' I' L' => ∃ sv' bs', I' = I ∧ z < 18446744073709551616 ∧ ρ' 0 = ptr o ∧ ρ' 5 = .int .u64 (z : Nat) ∧ L' = [F, box o ty (sv' :: tl), sl 5 1 sv' bs'.length (bs'.map byt)] ∧ bs'.length + (leb z).length = bs.length + (eInt n).length ∧ bs' ++ leb z = bs ++ eInt n) (zig n) ⟨sv, bs, rfl, zig_lt hn, rfl, rfl, rfl, rfl, rfl⟩ ?_
  rintro z ρ' I' L' ⟨sv', bs', rfl, hz, h0, h5, rfl, hlen, heq⟩
  have hel := eInt_len hn
  rw [← upd_self h5, ← upd_self h0]
  clear h5 h0
  by_cases hc : z < 128
  · rw [leb_small hc] at heq hlen
    refine WC.seq ?_
    refine WC.seq ?_
    refine WC.region ?_
    refine WL.val (Val.moveI rfl) rfl ?_
    refine WL.val (Val.geq rfl rfl (decide_eq_false (by omega))) rfl ?_
    refine WL.nil ?_
    refine WX.thenC ?_
    refine WC.condF rfl ?_
    refine WC.exit ?_
    refine WX.thenExit ?_
    refine WX.thenExit ?_
    refine WX.inHit ?_
    refine WX.thenC ?_
    refine WC.seq ?_
    refine WC.region ?_
    refine WL.val (Val.moveP rfl) rfl ?_
    refine WL.val (Val.moveP rfl) rfl ?_
    refine WL.val (Val.nilCheckP rfl) rfl ?_
    refine WL.val (Val.fldAddr rfl) rfl ?_
    refine WL.val (Val.loadS rfl (Rd.own1 1 rfl rfl)) rfl ?_
    refine WL.val (Val.moveI rfl) rfl ?_
    refine WL.val (Val.convert rfl (wrap_u8 (by omega) (by omega))) rfl ?_
    (refine WL.buildSlice (by with_unfolding_all exact rfl) rfl (by with_unfolding_all exact rfl) rfl ?_; intro _)
    refine WL.nApp ?_
    refine WL.append 2 rfl rfl rfl (Rd.own1 3 rfl rfl) (by rfl) (by rfl) (by rfl) (by decide) (by decide) (by omega) (by unfold maxLen; omega) rfl ?_
    intro g2 cap
    refine WL.nSet ?_
    refine WL.val (Val.nilCheckP rfl) rfl ?_
    refine WL.val (Val.fldAddr rfl) rfl ?_
    refine WL.stS 1 rfl rfl rfl rfl ?_
    refine WL.nil ?_
    refine WX.thenC ?_
    refine WC.seq ?_
    refine WC.region ?_
    refine WL.val (Val.moveP rfl) rfl ?_
    refine WL.val (Val.assignP rfl) rfl ?_
    refine WL.nil ?_
    refine WX.thenC ?_
    refine WC.ret ?_
    apply WX.doneP (ks := [0, 0])
    case hres => exact RunRes.r1 rfl (ResIs.tmpP rfl)
    case hI => first | exact Mem.le.refl _ | assumption
    refine ⟨rfl, rfl, .slice (some ⟨g2, 0, none⟩) (bs'.length + 1) cap, ?_⟩
    rw [← heq, ← sl_push _ _ _ (by omega)]
    rfl
  · have hb : Go.bits .or .u8 (IntKind.u8.wrap (z : Nat)) 128 = ((fb (z % 128 + 128)).val : Nat) := by
      rw [wrap_u8_eq, show ((z : Nat) : Int) % 256 = ((z % 256 : Nat) : Int) by omega, or8 _ (by omega), fb_val (by omega)]
      omega
    rw [leb_big hc] at heq hlen
    simp only [List.length_cons] at hlen
    refine WC.seq ?_
    refine WC.seq ?_
    refine WC.region ?_
    refine WL.val (Val.moveI rfl) rfl ?_
    refine WL.val (Val.geq rfl rfl (decide_eq_true (by omega))) rfl ?_
    refine WL.nil ?_
    refine WX.thenC ?_
    refine WC.condT rfl ?_
    refine WC.skip ?_
    refine WX.thenC ?_
    refine WC.seq ?_
    refine WC.block ?_
    refine WC.region ?_
    refine WL.val (Val.moveP rfl) rfl ?_
    refine WL.val (Val.moveP rfl) rfl ?_
    refine WL.val (Val.nilCheckP rfl) rfl ?_
    refine WL.val (Val.fldAddr rfl) rfl ?_
    refine WL.val (Val.loadS rfl (Rd.own1 1 rfl rfl)) rfl ?_
    refine WL.val (Val.moveI rfl) rfl ?_
    refine WL.val (Val.convert rfl rfl) rfl ?_
    refine WL.val (Val.or rfl rfl rfl) rfl ?_
    (refine WL.buildSlice (by with_unfolding_all exact rfl) rfl (by with_unfolding_all exact rfl) rfl ?_; intro _)
    refine WL.nApp ?_
    refine WL.append 2 rfl rfl rfl (Rd.own1 3 rfl rfl) (by rfl) (by rfl) (by rfl) (by decide) (by decide) (by omega) (by unfold maxLen; omega) rfl ?_
    intro g2 cap
    refine WL.nSet ?_
    refine WL.val (Val.nilCheckP rfl) rfl ?_
    refine WL.val (Val.fldAddr rfl) rfl ?_
    refine WL.stS 1 rfl rfl rfl rfl ?_
    refine WL.nil ?_
    refine WX.inNormal ?_
    refine WX.thenC ?_
    refine WC.region ?_
    refine WL.val (Val.moveI rfl) rfl ?_
    refine WL.val (Val.shr rfl rfl (by decide) (shr_u64 128 rfl (by decide))) rfl ?_
    refine WL.val (Val.assignI rfl) rfl ?_
    refine WL.nil ?_
    refine WX.conv (L' := [F, box o ty (.slice (some ⟨g2, 0, none⟩) (bs'.length + 1) cap :: tl), sl 5 1 (.slice (some ⟨g2, 0, none⟩) (bs'.length + 1) cap) (bs' ++ [fb (z % 128 + 128)]).length ((bs' ++ [fb (z % 128 + 128)]).map byt)]) ?_ ?_
    · intro w h
      have h2 := h.sub [0, 0, 0] rfl
      rw [List.length_append, List.map_append, List.map_singleton, byt, ← hb]
      exact h2
    refine WX.thenK (WK.round (z / 128) (by omega) ⟨_, bs' ++ [fb (z % 128 + 128)], rfl, by omega, rfl, rfl, rfl, by simp; omega, by rw [← heq]; simp⟩)
theorem p128 (k : Nat) (hk : k ≤ 9) : (2 : Int) ^ (min (7 * (k : Int)).toNat IntKind.u64.bits) = ((128 ^ k : Nat) : Int) := by
  have : (7 * (k : Int)).toNat = 7 * k := by omega
  rw [this, show min (7 * k) IntKind.u64.bits = 7 * k from Nat.min_eq_left (by show 7 * k ≤ 64; omega), show 128 = 2 ^ 7 by rfl, ← Nat.pow_mul]
  simp
theorem shlv (p k : Nat) (hk : k ≤ 9) : IntKind.u64.wrap ((p : Int) * 2 ^ (min (7 * (k : Int)).toNat IntKind.u64.bits)) = ((p * 128 ^ k % 18446744073709551616 : Nat) : Int) := by
  rw [p128 k hk, wrap_u64_eq]
  omega
theorem shrv (x k : Nat) (hk : k ≤ 9) : ((x : Nat) : Int).fdiv (2 ^ (min (7 * (k : Int)).toNat IntKind.u64.bits)) = ((x / 128 ^ k : Nat) : Int) := by
  rw [p128 k hk, Int.fdiv_eq_ediv_of_nonneg _ (Int.natCast_nonneg _)]
  rfl
theorem zag_code (z : Nat) (h : z < 18446744073709551616) : Go.bits .xor .i64 ((z : Int) / 2) (0 - ((z % 2 : Nat) : Int)) = zag z := by
  unfold zag
  rw [show (z : Int) / 2 = ((z / 2 : Nat) : Int) by omega]
  by_cases h2 : z % 2 = 0
  · rw [if_pos h2, h2]
    exact xorI_0 _ (by omega)
  · rw [if_neg h2, show z % 2 = 1 by omega]
    exact xorI_1 _ (by omega)
theorem go_cons (k z : Nat) (c : Fin 256) (r : Bs) : go k z (c :: r) = if 9 < k then none else if 18446744073709551616 ≤ c.val % 128 * 128 ^ k then none
    else if c.val < 128 then (if c.val = 0 ∧ 0 < k then none else some (z + c.val % 128 * 128 ^ k, r)) else go (k + 1) (z + c.val % 128 * 128 ^ k) r := rfl
/-- (*frame.In).Int: a number is read. -/
theorem inInt (b : Nat) (sv : Value) (bd : Bool) (bs : Bs) (I : Mem) (hb : Byt I sv bs) :
    Ctr Tryd.prog 53 [ptr b] I [box b 132 [sv, .bool bd]]
      (fun v I' L' => I' = I ∧ ∃ n sv' bd' bs', v = .int .i64 n ∧ I64 n ∧ L' = [box b 132 [sv', .bool bd']] ∧ Byt I sv' bs' ∧ Reads eInt I64 (st bd false bs) n (st bd' false bs')) := by
  refine Ctr.intro Tryd.func53 rfl rfl rfl fun E F => ?_
  refine WC.seq ?_
  refine WC.region ?_
  refine WL.val (Val.assignI rfl) rfl ?_
  refine WL.nil ?_
  refine WX.thenC ?_
  refine WC.seq ?_
  refine WC.region ?_
  refine WL.val (Val.assignI rfl) rfl ?_
  refine WL.nil ?_
  refine WX.thenC ?_
  refine WC.seq ?_
  refine WC.seq ?_
  refine WC.region ?_
  refine WL.val (Val.assignI rfl) rfl ?_
  refine WL.nil ?_
  refine WX.thenC ?_
  refine WC.block ?_
  cases bd
  · obtain ⟨n, s', hn, hgo, hr⟩ := Reads.int bs
    refine WC.loop (fun m ρ' I' L' => ∃ k z sv' cur, m = cur.length ∧ I' = I ∧ k ≤ 10 ∧ z < 128 ^ k ∧ z < 18446744073709551616 ∧ ρ' 0 = ptr b ∧ ρ' 3 = .int .u64 (z : Nat) ∧ ρ' 4 = .int .i64 (7 * (k : Nat)) ∧ L' = [F, box b 132 [sv', .bool false]] ∧ Byt I sv' cur ∧ go 0 0 bs = go k z cur)
      bs.length ⟨0, 0, sv, bs, rfl, rfl, by omega, by decide, by decide, rfl, rfl, rfl, rfl, hb, rfl⟩ ?_
    rintro m ρ' I' L' ⟨k, z, sv', cur, rfl, rfl, hk, hz, hz2, h0, h3, h4, rfl, hB, hG⟩
    rw [← upd_self h4, ← upd_self h3, ← upd_self h0]
    clear h4 h3 h0
    cases cur with
    | nil =>
      obtain ⟨a, cap, rfl, hc⟩ := SlAt.len hB
      refine WC.seq ?_
      refine WC.seq ?_
      refine WC.region ?_
      refine WL.val (Val.moveP rfl) rfl ?_
      refine WL.val (Val.nilCheckP rfl) rfl ?_
      refine WL.val (Val.fldAddr rfl) rfl ?_
      refine WL.val (Val.loadS rfl (Rd.own1 1 rfl rfl)) rfl ?_
      refine WL.val (Val.not rfl) rfl ?_
      refine WL.val (Val.moveB rfl) rfl ?_
      refine WL.gT rfl rfl ?_
      refine WL.val (Val.moveP rfl) rfl ?_
      refine WL.gT rfl rfl ?_
      refine WL.val (Val.nilCheckP rfl) rfl ?_
      refine WL.gT rfl rfl ?_
      refine WL.val (Val.fldAddr rfl) rfl ?_
      refine WL.gT rfl rfl ?_
      refine WL.val (Val.loadS rfl (Rd.own1 1 rfl rfl)) rfl ?_
      refine WL.gT rfl rfl ?_
      refine WL.val (Val.len rfl) rfl ?_
      refine WL.gT rfl rfl ?_
      refine WL.val (Val.gtr rfl rfl rfl) rfl ?_
      refine WL.val (Val.pick rfl) rfl ?_
      refine WL.nil ?_
      refine WX.thenC ?_
      refine WC.condF rfl ?_
      refine WC.exit ?_
      refine WX.thenExit ?_
      refine WX.thenExit ?_
      refine WX.inHit ?_
      refine WX.thenC ?_
      refine WC.seq ?_
      refine WC.region ?_
      refine WL.val (Val.moveP rfl) rfl ?_
      refine WL.val (Val.nilCheckP rfl) rfl ?_
      refine WL.val (Val.fldAddr rfl) rfl ?_
      refine WL.stB 1 rfl rfl rfl rfl ?_
      refine WL.nil ?_
      refine WX.thenC ?_
      refine WC.seq ?_
      refine WC.region ?_
      refine WL.val (Val.assignI rfl) rfl ?_
      refine WL.nil ?_
      refine WX.thenC ?_
      refine WC.ret ?_
      apply WX.doneP (ks := [0])
      case hres => exact RunRes.r1 rfl (ResIs.tmpI rfl)
      case hI => first | exact Mem.le.refl _ | assumption
      rw [hG] at hgo
      exact ⟨rfl, 0, _, true, [], rfl, ⟨by decide, by decide⟩, rfl, hB, by rw [← hgo.1, show st true false [] = s' from hgo.2.symm]; exact hr⟩
    | cons c r =>
      obtain ⟨b2, off, cap, rfl, hc, hA⟩ := Byt.head hB
      have hT := Byt.tail hB hc
      have hc256 := c.isLt
      have hpos : 0 < 128 ^ k := Nat.pow_pos (by decide)
      rw [go_cons] at hG
      by_cases hk9 : 9 < k
      · rw [if_pos hk9] at hG
        rw [hG] at hgo
        refine WC.seq ?_
        refine WC.seq ?_
        refine WC.region ?_
        refine WL.val (Val.moveP rfl) rfl ?_
        refine WL.val (Val.nilCheckP rfl) rfl ?_
        refine WL.val (Val.fldAddr rfl) rfl ?_
        refine WL.val (Val.loadS rfl (Rd.own1 1 rfl rfl)) rfl ?_
        refine WL.val (Val.not rfl) rfl ?_
        refine WL.val (Val.moveB rfl) rfl ?_
        refine WL.gT rfl rfl ?_
        refine WL.val (Val.moveP rfl) rfl ?_
        refine WL.gT rfl rfl ?_
        refine WL.val (Val.nilCheckP rfl) rfl ?_
        refine WL.gT rfl rfl ?_
        refine WL.val (Val.fldAddr rfl) rfl ?_
        refine WL.gT rfl rfl ?_
        refine WL.val (Val.loadS rfl (Rd.own1 1 rfl rfl)) rfl ?_
        refine WL.gT rfl rfl ?_
        refine WL.val (Val.len rfl) rfl ?_
        refine WL.gT rfl rfl ?_
        refine WL.val (Val.gtr rfl rfl (decide_eq_true (by omega))) rfl ?_
        refine WL.val (Val.pick rfl) rfl ?_
        refine WL.nil ?_
        refine WX.thenC ?_
        refine WC.condT rfl ?_
        refine WC.skip ?_
        refine WX.thenC ?_
        refine WC.seq ?_
        refine WC.block ?_
        refine WC.seq ?_
        refine WC.region ?_
        refine WL.val (Val.moveP rfl) rfl ?_
        refine WL.val (Val.nilCheckP rfl) rfl ?_
        refine WL.val (Val.fldAddr rfl) rfl ?_
        refine WL.val (Val.loadS rfl (Rd.own1 1 rfl rfl)) rfl ?_
        refine WL.val (Val.indexAddr rfl rfl (by omega) (by omega)) rfl ?_
        refine WL.val (Val.loadS rfl (Rd.imm (At.one (by assumption) rfl))) rfl ?_
        refine WL.val (Val.assignI rfl) rfl ?_
        refine WL.nil ?_
        refine WX.thenC ?_
        refine WC.seq ?_
        refine WC.region ?_
        refine WL.val (Val.moveP rfl) rfl ?_
        refine WL.val (Val.moveP rfl) rfl ?_
        refine WL.val (Val.nilCheckP rfl) rfl ?_
        refine WL.val (Val.fldAddr rfl) rfl ?_
        refine WL.val (Val.loadS rfl (Rd.own1 1 rfl rfl)) rfl ?_
        refine WL.val (Val.slice rfl (.some rfl (by decide)) (.none _) (by show 1 ≤ _; omega) (by omega)) rfl ?_
        refine WL.val (Val.nilCheckP rfl) rfl ?_
        refine WL.val (Val.fldAddr rfl) rfl ?_
        refine WL.stS 1 rfl rfl rfl rfl ?_
        refine WL.nil ?_
        refine WX.thenC ?_
        refine WC.seq ?_
        refine WC.region ?_
        refine WL.val (Val.moveI rfl) rfl ?_
        refine WL.val (Val.andNot rfl rfl rfl) rfl ?_
        refine WL.val (Val.convert rfl rfl) rfl ?_
        refine WL.val (Val.assignI rfl) rfl ?_
        refine WL.nil ?_
        refine WX.thenC ?_
        refine WC.seq ?_
        refine WC.seq ?_
        refine WC.region ?_
        refine WL.val (Val.moveI rfl) rfl ?_
        refine WL.val (Val.gtr rfl rfl (decide_eq_true (by omega))) rfl ?_
        refine WL.val (Val.moveB rfl) rfl ?_
        refine WL.gF rfl rfl rfl rfl ?_
        refine WL.gF rfl rfl rfl rfl ?_
        refine WL.gF rfl rfl rfl rfl ?_
        refine WL.gF rfl rfl rfl rfl ?_
        refine WL.gF rfl rfl rfl rfl ?_
        refine WL.gF rfl rfl rfl rfl ?_
        refine WL.gF rfl rfl rfl rfl ?_
        refine WL.val (Val.pick rfl) rfl ?_
        refine WL.nil ?_
        refine WX.thenC ?_
        refine WC.condT rfl ?_
        refine WC.exit ?_
        refine WX.thenExit ?_
        refine WX.inPass rfl ?_
        refine WX.thenExit ?_
        refine WX.thenExit ?_
        refine WX.inHit ?_
        refine WX.thenC ?_
        refine WC.seq ?_
        refine WC.region ?_
        refine WL.val (Val.moveP rfl) rfl ?_
        refine WL.val (Val.nilCheckP rfl) rfl ?_
        refine WL.val (Val.fldAddr rfl) rfl ?_
        refine WL.stB 1 rfl rfl rfl rfl ?_
        refine WL.nil ?_
        refine WX.thenC ?_
        refine WC.seq ?_
        refine WC.region ?_
        refine WL.val (Val.assignI rfl) rfl ?_
        refine WL.nil ?_
        refine WX.thenC ?_
        refine WC.ret ?_
        apply WX.doneP (ks := [0])
        case hres => exact RunRes.r1 rfl (ResIs.tmpI rfl)
        case hI => first | exact Mem.le.refl _ | assumption
        exact ⟨rfl, 0, _, true, r, rfl, ⟨by decide, by decide⟩, rfl, hT, by rw [← hgo.1, show st true false r = s' from hgo.2.symm]; exact hr⟩
      · rw [if_neg hk9] at hG
        refine WC.seq ?_
        refine WC.seq ?_
        refine WC.region ?_
        refine WL.val (Val.moveP rfl) rfl ?_
        refine WL.val (Val.nilCheckP rfl) rfl ?_
        refine WL.val (Val.fldAddr rfl) rfl ?_
        refine WL.val (Val.loadS rfl (Rd.own1 1 rfl rfl)) rfl ?_
        refine WL.val (Val.not rfl) rfl ?_
        refine WL.val (Val.moveB rfl) rfl ?_
        refine WL.gT rfl rfl ?_
        refine WL.val (Val.moveP rfl) rfl ?_
        refine WL.gT rfl rfl ?_
        refine WL.val (Val.nilCheckP rfl) rfl ?_
        refine WL.gT rfl rfl ?_
        refine WL.val (Val.fldAddr rfl) rfl ?_
        refine WL.gT rfl rfl ?_
        refine WL.val (Val.loadS rfl (Rd.own1 1 rfl rfl)) rfl ?_
        refine WL.gT rfl rfl ?_
        refine WL.val (Val.len rfl) rfl ?_
        refine WL.gT rfl rfl ?_
        refine WL.val (Val.gtr rfl rfl (decide_eq_true (by omega))) rfl ?_
        refine WL.val (Val.pick rfl) rfl ?_
        refine WL.nil ?_
        refine WX.thenC ?_
        refine WC.condT rfl ?_
        refine WC.skip ?_
        refine WX.thenC ?_
        refine WC.seq ?_
        refine WC.block ?_
        refine WC.seq ?_
        refine WC.region ?_
        refine WL.val (Val.moveP rfl) rfl ?_
        refine WL.val (Val.nilCheckP rfl) rfl ?_
        refine WL.val (Val.fldAddr rfl) rfl ?_
        refine WL.val (Val.loadS rfl (Rd.own1 1 rfl rfl)) rfl ?_
        refine WL.val (Val.indexAddr rfl rfl (by omega) (by omega)) rfl ?_
        refine WL.val (Val.loadS rfl (Rd.imm (At.one (by assumption) rfl))) rfl ?_
        refine WL.val (Val.assignI rfl) rfl ?_
        refine WL.nil ?_
        refine WX.thenC ?_
        refine WC.seq ?_
        refine WC.region ?_
        refine WL.val (Val.moveP rfl) rfl ?_
        refine WL.val (Val.moveP rfl) rfl ?_
        refine WL.val (Val.nilCheckP rfl) rfl ?_
        refine WL.val (Val.fldAddr rfl) rfl ?_
        refine WL.val (Val.loadS rfl (Rd.own1 1 rfl rfl)) rfl ?_
        refine WL.val (Val.slice rfl (.some rfl (by decide)) (.none _) (by show 1 ≤ _; omega) (by omega)) rfl ?_
        refine WL.val (Val.nilCheckP rfl) rfl ?_
        refine WL.val (Val.fldAddr rfl) rfl ?_
        refine WL.stS 1 rfl rfl rfl rfl ?_
        refine WL.nil ?_
        refine WX.thenC ?_
        refine WC.seq ?_
        refine WC.region ?_
        refine WL.val (Val.moveI rfl) rfl ?_
        refine WL.val (Val.andNot rfl rfl rfl) rfl ?_
        refine WL.val (Val.convert rfl rfl) rfl ?_
        refine WL.val (Val.assignI rfl) rfl ?_
        refine WL.nil ?_
        refine WX.thenC ?_
        refine WC.seq ?_
        refine WC.seq ?_
        refine WC.region ?_
        refine WL.val (Val.moveI rfl) rfl ?_
        refine WL.val (Val.gtr rfl rfl (decide_eq_false (by omega))) rfl ?_
        refine WL.val (Val.moveB rfl) rfl ?_
        refine WL.gT rfl rfl ?_
        refine WL.val (Val.moveI rfl) rfl ?_
        refine WL.gT rfl rfl ?_
        refine WL.val (Val.moveI rfl) rfl ?_
        refine WL.gT rfl rfl ?_
        rw [andNot8, wrap_u64 (n := ((c.val % 128 : Nat) : Int)) (by omega) (by omega)]
        skip
        refine WL.val (Val.shl rfl rfl (by omega) (shlv (c.val % 128) k (by omega))) rfl ?_
        refine WL.gT rfl rfl ?_
        refine WL.val (Val.moveI rfl) rfl ?_
        refine WL.gT rfl rfl ?_
        refine WL.val (Val.shr rfl rfl (by omega) (shrv (c.val % 128 * 128 ^ k % 18446744073709551616) k (by omega))) rfl ?_
        by_cases hov : 18446744073709551616 ≤ c.val % 128 * 128 ^ k
        · have hne : c.val % 128 * 128 ^ k % 18446744073709551616 / 128 ^ k ≠ c.val % 128 := by
            intro h
            have h1 := Nat.div_mul_le_self (c.val % 128 * 128 ^ k % 18446744073709551616) (128 ^ k)
            rw [h] at h1
            have := Nat.mod_lt (c.val % 128 * 128 ^ k) (show 18446744073709551616 > 0 by decide)
            omega
          rw [if_pos hov] at hG
          rw [hG] at hgo
          generalize c.val % 128 * 128 ^ k % 18446744073709551616 / 128 ^ k = q at *
          refine WL.gT rfl rfl ?_
          refine WL.val (Val.moveI rfl) rfl ?_
          refine WL.gT rfl rfl ?_
          refine WL.val (Val.neq rfl rfl (bne_iff_ne.2 (by omega))) rfl ?_
          refine WL.val (Val.pick rfl) rfl ?_
          refine WL.nil ?_
          refine WX.thenC ?_
          refine WC.condT rfl ?_
          refine WC.exit ?_
          refine WX.thenExit ?_
          refine WX.inPass rfl ?_
          refine WX.thenExit ?_
          refine WX.thenExit ?_
          refine WX.inHit ?_
          refine WX.thenC ?_
          refine WC.seq ?_
          refine WC.region ?_
          refine WL.val (Val.moveP rfl) rfl ?_
          refine WL.val (Val.nilCheckP rfl) rfl ?_
          refine WL.val (Val.fldAddr rfl) rfl ?_
          refine WL.stB 1 rfl rfl rfl rfl ?_
          refine WL.nil ?_
          refine WX.thenC ?_
          refine WC.seq ?_
          refine WC.region ?_
          refine WL.val (Val.assignI rfl) rfl ?_
          refine WL.nil ?_
          refine WX.thenC ?_
          refine WC.ret ?_
          apply WX.doneP (ks := [0])
          case hres => exact RunRes.r1 rfl (ResIs.tmpI rfl)
          case hI => first | exact Mem.le.refl _ | assumption
          exact ⟨rfl, 0, _, true, r, rfl, ⟨by decide, by decide⟩, rfl, hT, by rw [← hgo.1, show st true false r = s' from hgo.2.symm]; exact hr⟩
        · have heq : c.val % 128 * 128 ^ k % 18446744073709551616 / 128 ^ k = c.val % 128 := by
            rw [Nat.mod_eq_of_lt (by omega), Nat.mul_div_cancel _ hpos]
          rw [heq]
          rw [if_neg hov] at hG
          have hsum : z + c.val % 128 * 128 ^ k < 18446744073709551616 := by
            have e : c.val % 128 * 128 ^ k + z < (c.val % 128 + 1) * 128 ^ k := by rw [Nat.add_mul]; omega
            have e2 : (c.val % 128 + 1) * 128 ^ k ≤ 18446744073709551616 := by
              have : ∀ k < 10, ∃ M, M * 128 ^ k = 18446744073709551616 := by
                intro k hk
                refine ⟨18446744073709551616 / 128 ^ k, ?_⟩
                have : ∀ k < 10, 18446744073709551616 / 128 ^ k * 128 ^ k = 18446744073709551616 := by decide
                exact this k hk
              obtain ⟨M, hM⟩ := this k (by omega)
              rw [← hM] at hov ⊢
              exact Nat.mul_le_mul_right _ (Nat.lt_of_mul_lt_mul_right (Nat.not_le.1 hov))
            omega
          have hor : Go.bits .or .u64 (z : Int) ((c.val % 128 * 128 ^ k : Nat) : Int) = ((z + c.val % 128 * 128 ^ k : Nat) : Int) := by
            have e7 : 128 ^ k = 2 ^ (7 * k) := by rw [show 128 = 2 ^ 7 by rfl, ← Nat.pow_mul]
            rw [e7] at hz hsum ⊢
            exact or64 z _ _ hz hsum
          refine WL.gT rfl rfl ?_
          refine WL.val (Val.moveI rfl) rfl ?_
          refine WL.gT rfl rfl ?_
          refine WL.val (Val.neq rfl rfl (bne_eq_false_iff_eq.2 (by omega))) rfl ?_
          refine WL.val (Val.pick rfl) rfl ?_
          refine WL.nil ?_
          refine WX.thenC ?_
          refine WC.condF rfl ?_
          refine WC.skip ?_
          refine WX.thenC ?_
          refine WC.seq ?_
          refine WC.region ?_
          refine WL.val (Val.moveI rfl) rfl ?_
          refine WL.val (Val.moveI rfl) rfl ?_
          refine WL.val (Val.moveI rfl) rfl ?_
          refine WL.val (Val.shl rfl rfl (by omega) (shlv (c.val % 128) k (by omega))) rfl ?_
          rw [Nat.mod_eq_of_lt (show c.val % 128 * 128 ^ k < 18446744073709551616 by omega)]
          refine WL.val (Val.or rfl rfl hor) rfl ?_
          have hz' : z + c.val % 128 * 128 ^ k < 128 ^ (k + 1) := by
            have h127 : c.val % 128 ≤ 127 := by omega
            have := Nat.mul_le_mul_right (128 ^ k) h127
            rw [Nat.pow_succ]
            omega
          generalize z + c.val % 128 * 128 ^ k = z' at *
          by_cases hs : c.val < 128
          · rw [if_pos hs] at hG
            by_cases h0 : c.val = 0 ∧ 0 < k
            · rw [if_pos h0] at hG
              rw [hG] at hgo
              refine WL.val (Val.assignI rfl) rfl ?_
              refine WL.nil ?_
              refine WX.thenC ?_
              refine WC.seq ?_
              refine WC.region ?_
              refine WL.val (Val.moveI rfl) rfl ?_
              refine WL.val (Val.lss rfl rfl (decide_eq_true (by omega))) rfl ?_
              refine WL.nil ?_
              refine WX.thenC ?_
              refine WC.condT rfl ?_
              refine WC.seq ?_
              refine WC.seq ?_
              refine WC.region ?_
              refine WL.val (Val.moveI rfl) rfl ?_
              refine WL.val (Val.eql rfl rfl (beq_iff_eq.2 (by omega))) rfl ?_
              refine WL.val (Val.moveB rfl) rfl ?_
              refine WL.gT rfl rfl ?_
              refine WL.val (Val.moveI rfl) rfl ?_
              refine WL.gT rfl rfl ?_
              refine WL.val (Val.gtr rfl rfl (decide_eq_true (by omega))) rfl ?_
              refine WL.val (Val.pick rfl) rfl ?_
              refine WL.nil ?_
              refine WX.thenC ?_
              refine WC.condT rfl ?_
              refine WC.exit ?_
              refine WX.thenExit ?_
              refine WX.inPass rfl ?_
              refine WX.thenExit ?_
              refine WX.thenExit ?_
              refine WX.inHit ?_
              refine WX.thenC ?_
              refine WC.seq ?_
              refine WC.region ?_
              refine WL.val (Val.moveP rfl) rfl ?_
              refine WL.val (Val.nilCheckP rfl) rfl ?_
              refine WL.val (Val.fldAddr rfl) rfl ?_
              refine WL.stB 1 rfl rfl rfl rfl ?_
              refine WL.nil ?_
              refine WX.thenC ?_
              refine WC.seq ?_
              refine WC.region ?_
              refine WL.val (Val.assignI rfl) rfl ?_
              refine WL.nil ?_
              refine WX.thenC ?_
              refine WC.ret ?_
              apply WX.doneP (ks := [0])
              case hres => exact RunRes.r1 rfl (ResIs.tmpI rfl)
              case hI => first | exact Mem.le.refl _ | assumption
              exact ⟨rfl, 0, _, true, r, rfl, ⟨by decide, by decide⟩, rfl, hT, by rw [← hgo.1, show st true false r = s' from hgo.2.symm]; exact hr⟩
            · rw [if_neg h0] at hG
              rw [hG] at hgo
              by_cases hcz : c.val = 0
              · have hk0 : k = 0 := by omega
                refine WL.val (Val.assignI rfl) rfl ?_
                refine WL.nil ?_
                refine WX.thenC ?_
                refine WC.seq ?_
                refine WC.region ?_
                refine WL.val (Val.moveI rfl) rfl ?_
                refine WL.val (Val.lss rfl rfl (decide_eq_true (by omega))) rfl ?_
                refine WL.nil ?_
                refine WX.thenC ?_
                refine WC.condT rfl ?_
                refine WC.seq ?_
                refine WC.seq ?_
                refine WC.region ?_
                refine WL.val (Val.moveI rfl) rfl ?_
                refine WL.val (Val.eql rfl rfl (beq_iff_eq.2 (by omega))) rfl ?_
                refine WL.val (Val.moveB rfl) rfl ?_
                refine WL.gT rfl rfl ?_
                refine WL.val (Val.moveI rfl) rfl ?_
                refine WL.gT rfl rfl ?_
                refine WL.val (Val.gtr rfl rfl (decide_eq_false (by omega))) rfl ?_
                refine WL.val (Val.pick rfl) rfl ?_
                refine WL.nil ?_
                refine WX.thenC ?_
                refine WC.condF rfl ?_
                refine WC.skip ?_
                refine WX.thenC ?_
                refine WC.seq ?_
                refine WC.region ?_
                refine WL.val (Val.moveI rfl) rfl ?_
                refine WL.val (Val.shr rfl rfl (by decide) (shr_u64 2 rfl (by decide))) rfl ?_
                refine WL.val (Val.convert rfl (wrap_i64 (by omega) (by omega))) rfl ?_
                refine WL.val (Val.moveI rfl) rfl ?_
                refine WL.val (Val.and rfl rfl (and64_1 z' hsum)) rfl ?_
                refine WL.val (Val.convert rfl (wrap_i64 (by omega) (by omega))) rfl ?_
                refine WL.val (Val.neg rfl (wrap_i64 (by omega) (by omega))) rfl ?_
                refine WL.val (Val.xor rfl rfl rfl) rfl ?_
                refine WL.val (Val.assignI rfl) rfl ?_
                refine WL.nil ?_
                refine WX.thenC ?_
                refine WC.ret ?_
                refine WX.inRet ?_
                refine WX.thenRet ?_
                refine WX.thenRet ?_
                refine WX.inRet ?_
                refine WX.thenRet ?_
                rw [zag_code z' hsum]
                apply WX.doneP (ks := [0])
                case hres => exact RunRes.r1 rfl (ResIs.tmpI rfl)
                case hI => first | exact Mem.le.refl _ | assumption
                exact ⟨rfl, n, _, false, r, by rw [hgo.1], hn, rfl, hT, by rw [show st false false r = s' from hgo.2.1.symm]; exact hr⟩
              · skip
                refine WL.val (Val.assignI rfl) rfl ?_
                refine WL.nil ?_
                refine WX.thenC ?_
                refine WC.seq ?_
                refine WC.region ?_
                refine WL.val (Val.moveI rfl) rfl ?_
                refine WL.val (Val.lss rfl rfl (decide_eq_true (by omega))) rfl ?_
                refine WL.nil ?_
                refine WX.thenC ?_
                refine WC.condT rfl ?_
                refine WC.seq ?_
                refine WC.seq ?_
                refine WC.region ?_
                refine WL.val (Val.moveI rfl) rfl ?_
                refine WL.val (Val.eql rfl rfl (beq_eq_false_iff_ne.2 (by omega))) rfl ?_
                refine WL.val (Val.moveB rfl) rfl ?_
                refine WL.gF rfl rfl rfl rfl ?_
                refine WL.gF rfl rfl rfl rfl ?_
                refine WL.val (Val.pick rfl) rfl ?_
                refine WL.nil ?_
                refine WX.thenC ?_
                refine WC.condF rfl ?_
                refine WC.skip ?_
                refine WX.thenC ?_
                refine WC.seq ?_
                refine WC.region ?_
                refine WL.val (Val.moveI rfl) rfl ?_
                refine WL.val (Val.shr rfl rfl (by decide) (shr_u64 2 rfl (by decide))) rfl ?_
                refine WL.val (Val.convert rfl (wrap_i64 (by omega) (by omega))) rfl ?_
                refine WL.val (Val.moveI rfl) rfl ?_
                refine WL.val (Val.and rfl rfl (and64_1 z' hsum)) rfl ?_
                refine WL.val (Val.convert rfl (wrap_i64 (by omega) (by omega))) rfl ?_
                refine WL.val (Val.neg rfl (wrap_i64 (by omega) (by omega))) rfl ?_
                refine WL.val (Val.xor rfl rfl rfl) rfl ?_
                refine WL.val (Val.assignI rfl) rfl ?_
                refine WL.nil ?_
                refine WX.thenC ?_
                refine WC.ret ?_
                refine WX.inRet ?_
                refine WX.thenRet ?_
                refine WX.thenRet ?_
                refine WX.inRet ?_
                refine WX.thenRet ?_
                rw [zag_code z' hsum]
                apply WX.doneP (ks := [0])
                case hres => exact RunRes.r1 rfl (ResIs.tmpI rfl)
                case hI => first | exact Mem.le.refl _ | assumption
                exact ⟨rfl, n, _, false, r, by rw [hgo.1], hn, rfl, hT, by rw [show st false false r = s' from hgo.2.1.symm]; exact hr⟩
          · rw [if_neg hs] at hG
            refine WL.val (Val.assignI rfl) rfl ?_
            refine WL.nil ?_
            refine WX.thenC ?_
            refine WC.seq ?_
            refine WC.region ?_
            refine WL.val (Val.moveI rfl) rfl ?_
            refine WL.val (Val.lss rfl rfl (decide_eq_false (by omega))) rfl ?_
            refine WL.nil ?_
            refine WX.thenC ?_
            refine WC.condF rfl ?_
            refine WC.skip ?_
            refine WX.inNormal ?_
            refine WX.thenC ?_
            refine WC.region ?_
            refine WL.val (Val.moveI rfl) rfl ?_
            refine WL.val (Val.add rfl rfl (wrap_i64 (by omega) (by omega))) rfl ?_
            refine WL.val (Val.assignI rfl) rfl ?_
            refine WL.nil ?_
            refine WX.thenK (WK.round r.length (by simp) ⟨k + 1, z', _, r, rfl, rfl, by omega, hz', hsum, rfl, rfl, ?_, rfl, hT, hG⟩)
            show Value.int .i64 _ = _
            congr 1
  · refine WC.loop (fun m ρ' I' L' => I' = I ∧ ρ' 0 = ptr b ∧ L' = [F, box b 132 [sv, .bool true]]) 0 ⟨rfl, rfl, rfl⟩ ?_
    rintro m ρ' I' L' ⟨rfl, h0, rfl⟩
    rw [← upd_self h0]
    clear h0
    refine WC.seq ?_
    refine WC.seq ?_
    refine WC.region ?_
    refine WL.val (Val.moveP rfl) rfl ?_
    refine WL.val (Val.nilCheckP rfl) rfl ?_
    refine WL.val (Val.fldAddr rfl) rfl ?_
    refine WL.val (Val.loadS rfl (Rd.own1 1 rfl rfl)) rfl ?_
    refine WL.val (Val.not rfl) rfl ?_
    refine WL.val (Val.moveB rfl) rfl ?_
    refine WL.gF rfl rfl rfl rfl ?_
    refine WL.gF rfl rfl rfl rfl ?_
    refine WL.gF rfl rfl rfl rfl ?_
    refine WL.gF rfl rfl rfl rfl ?_
    refine WL.gF rfl rfl rfl rfl ?_
    refine WL.gF rfl rfl rfl rfl ?_
    refine WL.val (Val.pick rfl) rfl ?_
    refine WL.nil ?_
    refine WX.thenC ?_
    refine WC.condF rfl ?_
    refine WC.exit ?_
    refine WX.thenExit ?_
    refine WX.thenExit ?_
    refine WX.inHit ?_
    refine WX.thenC ?_
    refine WC.seq ?_
    refine WC.region ?_
    refine WL.val (Val.moveP rfl) rfl ?_
    refine WL.val (Val.nilCheckP rfl) rfl ?_
    refine WL.val (Val.fldAddr rfl) rfl ?_
    refine WL.stB 1 rfl rfl rfl rfl ?_
    refine WL.nil ?_
    refine WX.thenC ?_
    refine WC.seq ?_
    refine WC.region ?_
    refine WL.val (Val.assignI rfl) rfl ?_
    refine WL.nil ?_
    refine WX.thenC ?_
    refine WC.ret ?_
    apply WX.doneP (ks := [0])
    case hres => exact RunRes.r1 rfl (ResIs.tmpI rfl)
    case hI => first | exact Mem.le.refl _ | assumption
    exact ⟨rfl, 0, _, true, bs, rfl, ⟨by decide, by decide⟩, rfl, hb, Reads.nil⟩
end Go.Proofs.YtfdeckdongonnaaDoor
