/-
  Code, in plain Lean: what commands are, their bytes, and what a reader of bytes answers.
-/
import Derived.Test.YtfdeckdongonnaaDoorSepF
namespace Go.Cd
open Go.Sl
set_option linter.unusedVariables false
set_option maxRecDepth 100000
abbrev Bs := List (Fin 256)

/-! numbers -/
def I64 (n : Int) : Prop := -9223372036854775808 ≤ n ∧ n ≤ 9223372036854775807
def zig (n : Int) : Nat := if 0 ≤ n then (2 * n).toNat else (-2 * n - 1).toNat
def fb (n : Nat) : Fin 256 := ⟨n % 256, Nat.mod_lt _ (by decide)⟩
def leb (z : Nat) : Bs := if h : z < 128 then [fb z] else fb (z % 128 + 128) :: leb (z / 128)
termination_by z
decreasing_by omega
def eInt (n : Int) : Bs := leb (zig n)
def eInts (l : List Int) : Bs := (l.map eInt).flatten
theorem zig_lt {n : Int} (h : I64 n) : zig n < 18446744073709551616 := by unfold zig; have := h.1; have := h.2; split <;> omega
theorem zig_inj {m n : Int} (h : zig m = zig n) : m = n := by unfold zig at h; split at h <;> split at h <;> omega
theorem leb_len : ∀ (k z : Nat), z < 128 ^ k → 0 < k → (leb z).length ≤ k := by
  intro k
  induction k with
  | zero => intro z _ h; omega
  | succ k ih =>
    intro z hz _
    unfold leb
    split
    · simp
    · rename_i h
      have hk : 0 < k := by
        rcases Nat.eq_zero_or_pos k with rfl | hk
        · simp at hz; omega
        · exact hk
      have := ih (z / 128) (by rw [Nat.pow_succ] at hz; exact Nat.div_lt_of_lt_mul (by omega)) hk
      simp; omega
theorem eInt_len {n : Int} (h : I64 n) : (eInt n).length ≤ 10 := leb_len 10 _ (by have := zig_lt h; omega) (by decide)
/-- Reading a number: what is gathered so far, at place k. -/
def go (k z : Nat) : Bs → Option (Nat × Bs)
  | [] => none
  | c :: r => if 9 < k then none else if 18446744073709551616 ≤ c.val % 128 * 128 ^ k then none
    else if c.val < 128 then (if c.val = 0 ∧ 0 < k then none else some (z + c.val % 128 * 128 ^ k, r)) else go (k + 1) (z + c.val % 128 * 128 ^ k) r
theorem fb_val {n : Nat} (h : n < 256) : (fb n).val = n := by simp [fb]; omega
theorem leb_small {z : Nat} (h : z < 128) : leb z = [fb z] := by rw [leb, dif_pos h]
theorem leb_big {z : Nat} (h : ¬ z < 128) : leb z = fb (z % 128 + 128) :: leb (z / 128) := by rw [leb, dif_neg h]
/-- What is read of a number's bytes. -/
theorem go_leb (r : Bs) : ∀ (n k z : Nat), n * 128 ^ k < 18446744073709551616 → (k = 0 ∨ 0 < n) → k ≤ 9 → go k z (leb n ++ r) = some (z + n * 128 ^ k, r) := by
  intro n
  induction n using Nat.strongRecOn with
  | _ n ih =>
    intro k z h hk hk9
    by_cases hn : n < 128
    · rw [leb_small hn]
      show go k z (fb n :: r) = _
      unfold go
      rw [fb_val (by omega), Nat.mod_eq_of_lt hn, if_neg (by omega), if_neg (by omega), if_pos hn, if_neg (by omega)]
    · rw [leb_big hn]
      show go k z (fb (n % 128 + 128) :: (leb (n / 128) ++ r)) = _
      have hp : 0 < 128 ^ k := Nat.pow_pos (by decide)
      have e : n * 128 ^ k = n % 128 * 128 ^ k + n / 128 * 128 ^ (k + 1) := by
        rw [Nat.pow_succ, Nat.mul_comm (128 ^ k) 128, ← Nat.mul_assoc, ← Nat.add_mul]; congr 1; omega
      have hk8 : k ≤ 8 := by
        rcases Nat.lt_or_ge k 9 with h9 | h9
        · omega
        · have : k = 9 := by omega
          subst this
          omega
      unfold go
      rw [fb_val (by omega), show (n % 128 + 128) % 128 = n % 128 by omega, if_neg (by omega), if_neg (by omega), if_neg (by omega), ih (n / 128) (by omega) (k + 1) _ (by omega) (.inr (by omega)) (by omega)]
      rw [e, Nat.add_assoc]
theorem carry (p n k : Nat) (hp : p < 128) (hk : k ≤ 9) (h : n * 128 ^ (k + 1) < 18446744073709551616) (h0 : 0 < n) : p * 128 ^ k + n * 128 ^ (k + 1) < 18446744073709551616 := by
  have key : ∀ C M : Nat, M * (128 * C) = 18446744073709551616 → n * (128 * C) < 18446744073709551616 → p * C + n * (128 * C) < 18446744073709551616 := by
    intro C M hM hn
    rw [← hM] at hn ⊢
    have hn' : n + 1 ≤ M := Nat.lt_of_mul_lt_mul_right hn
    have h1 : (n + 1) * (128 * C) ≤ M * (128 * C) := Nat.mul_le_mul_right _ hn'
    have hC : 0 < C := by
      rcases Nat.eq_zero_or_pos C with rfl | hC
      · simp at hM
      · exact hC
    have h2 : p * C < 128 * C := Nat.mul_lt_mul_of_pos_right hp hC
    rw [Nat.add_mul] at h1
    omega
  have e : 128 ^ (k + 1) = 128 * 128 ^ k := by rw [Nat.pow_succ, Nat.mul_comm]
  rw [e] at h ⊢
  rcases Nat.lt_or_ge k 9 with h9 | h9
  · refine key (128 ^ k) (144115188075855872 / 128 ^ k) ?_ h
    have : ∀ k < 9, 144115188075855872 / 128 ^ k * (128 * 128 ^ k) = 18446744073709551616 := by decide
    exact this k h9
  · obtain rfl : k = 9 := by omega
    have : 128 * 128 ^ 9 ≤ n * (128 * 128 ^ 9) := Nat.le_mul_of_pos_left _ h0
    exact absurd h (Nat.not_lt.2 (Nat.le_trans (by decide) this))
/-- What is read has just these bytes. -/
theorem of_go : ∀ (bs : Bs) (k z z' : Nat) (r : Bs), go k z bs = some (z', r) → ∃ n, bs = leb n ++ r ∧ z' = z + n * 128 ^ k ∧ n * 128 ^ k < 18446744073709551616 ∧ (k = 0 ∨ 0 < n) := by
  intro bs
  induction bs with
  | nil => intro k z z' r h; simp [go] at h
  | cons c bs ih =>
    intro k z z' r h
    unfold go at h
    split at h
    · cases h
    rename_i h9
    split at h
    · cases h
    rename_i hov
    have hc := c.isLt
    split at h
    · rename_i hs
      split at h
      · cases h
      rename_i h0
      cases h
      refine ⟨c.val, ?_, ?_, ?_, ?_⟩
      · rw [leb_small hs]
        show c :: bs = [fb c.val] ++ bs
        rw [show fb c.val = c from Fin.ext (by rw [fb_val hc])]
        rfl
      · rw [Nat.mod_eq_of_lt hs]
      · rw [Nat.mod_eq_of_lt hs] at hov; omega
      · omega
    · rename_i hs
      obtain ⟨n, rfl, hz, hb, hn⟩ := ih _ _ _ _ h
      have hn0 : 0 < n := by omega
      have e : (c.val % 128 + 128 * n) * 128 ^ k = c.val % 128 * 128 ^ k + n * 128 ^ (k + 1) := by
        rw [Nat.pow_succ, Nat.mul_comm (128 ^ k) 128, ← Nat.mul_assoc, ← Nat.add_mul, Nat.mul_comm 128 n]
      refine ⟨c.val % 128 + 128 * n, ?_, ?_, ?_, .inr (by omega)⟩
      · rw [leb_big (z := c.val % 128 + 128 * n) (by omega), show (c.val % 128 + 128 * n) / 128 = n by omega, show (c.val % 128 + 128 * n) % 128 = c.val % 128 by omega]
        rw [show fb (c.val % 128 + 128) = c from Fin.ext (by rw [fb_val (by omega)]; omega)]
        rfl
      · rw [hz, e, Nat.add_assoc]
      · rw [e]
        exact carry _ _ _ (by omega) (by omega) hb hn0
/-- A number out of its zigzag. -/
def zag (z : Nat) : Int := if z % 2 = 0 then (z / 2 : Nat) else -((z / 2 : Nat) : Int) - 1
theorem zag_zig (n : Int) : zag (zig n) = n := by unfold zag zig; split <;> split <;> omega
theorem zig_zag (z : Nat) : zig (zag z) = z := by unfold zag zig; split <;> split <;> omega
theorem zag_I64 {z : Nat} (h : z < 18446744073709551616) : I64 (zag z) := by unfold zag I64; split <;> omega

/-! states of a reader: none if it is bad -/
def st (b1 b2 : Bool) (bs : Bs) : Option Bs := if b1 || b2 then none else some bs
/-- What a reader answers: x was written by w; s is what lay there ahead of it, s' behind it. -/
structure Reads {α : Type} (w : α → Bs) (ok : α → Prop) (s : Option Bs) (x : α) (s' : Option Bs) : Prop where
  sound : ∀ r, s' = some r → ok x ∧ s = some (w x ++ r)
  whole : ∀ y r, ok y → s = some (w y ++ r) → x = y ∧ s' = some r
theorem Reads.bad {α : Type} {w : α → Bs} {ok : α → Prop} {s : Option Bs} {x : α} (h : ∀ y r, ok y → s ≠ some (w y ++ r)) : Reads w ok s x none := ⟨(fun _ h => by cases h), fun y r hy hs => absurd hs (h y r hy)⟩
theorem Reads.nil {α : Type} {w : α → Bs} {ok : α → Prop} {x : α} : Reads w ok none x none := Reads.bad fun _ _ _ h => (by cases h)
theorem Reads.nil' {α : Type} {w : α → Bs} {ok : α → Prop} {x : α} {s' : Option Bs} (h : Reads w ok none x s') : s' = none := by
  cases s' with
  | none => rfl
  | some r => have := (h.sound r rfl).2; cases this
/-- What reads a number. -/
theorem Reads.int (bs : Bs) : ∃ n s', I64 n ∧ (match go 0 0 bs with | some (z, r) => n = zag z ∧ s' = some r ∧ z < 18446744073709551616 | .none => n = 0 ∧ s' = none) ∧ Reads eInt I64 (some bs) n s' := by
  cases h : go 0 0 bs with
  | none =>
    refine ⟨0, Option.none, ⟨by omega, by omega⟩, ⟨rfl, rfl⟩, Reads.bad fun y r hy hs => ?_⟩
    cases hs
    have := go_leb r (zig y) 0 0 (by have := zig_lt hy; omega) (.inl rfl) (by omega)
    rw [show leb (zig y) = eInt y from rfl, h] at this
    cases this
  | some zr =>
    obtain ⟨z, r⟩ := zr
    obtain ⟨n, hbs, hz, hn, _⟩ := of_go _ _ _ _ _ h
    have hz' : z = n := by simpa using hz
    subst hz'
    have hn' : z < 18446744073709551616 := by simpa using hn
    refine ⟨zag z, some r, zag_I64 hn', ⟨rfl, rfl, hn'⟩, fun q hq => ?_, fun y q hy hs => ?_⟩
    · cases hq
      refine ⟨zag_I64 hn', ?_⟩
      rw [hbs, eInt, zig_zag]
    · cases hs
      have := go_leb q (zig y) 0 0 (by have := zig_lt hy; omega) (.inl rfl) (by omega)
      rw [show leb (zig y) = eInt y from rfl, h] at this
      simp only [Option.some.injEq, Prod.mk.injEq] at this
      obtain ⟨h1, h2⟩ := this
      exact ⟨by rw [h1]; simpa using zag_zig y, by rw [h2]⟩
end Go.Cd
