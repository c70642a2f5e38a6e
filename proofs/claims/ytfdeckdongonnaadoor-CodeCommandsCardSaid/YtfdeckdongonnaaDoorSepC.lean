/-
  Rules: integers, slices, append, build, calls, functions' contracts and ends.
-/
import Derived.Test.YtfdeckdongonnaaDoorSepB
import Derived.Deep.AppendLies
import Derived.Deep.Upon
import Derived.Laws.OwnMore
import Derived.Laws.Entries
namespace Go.Sl
set_option linter.unusedVariables false
set_option linter.unusedSimpArgs false
open Go.RowKit

/-! ### Integers -/
class IntK (P : Program) (t : Nat) (k : outParam IntKind) : Prop where
  is : P.underlying t = some (.int k)

theorem p64 : (2 : Int) ^ 64 = 18446744073709551616 := by rfl
theorem p63 : (2 : Int) ^ (64 - 1) = 9223372036854775808 := by rfl
theorem wrap_i64_eq (n : Int) : IntKind.i64.wrap n = (n + 9223372036854775808) % 18446744073709551616 - 9223372036854775808 := by
  simp only [IntKind.wrap, IntKind.signed, IntKind.bits, Bool.true_and, decide_eq_true_eq, p64, p63]
  split <;> omega
theorem wrap_u64_eq (n : Int) : IntKind.u64.wrap n = n % 18446744073709551616 := by
  simp only [IntKind.wrap, IntKind.signed, IntKind.bits, Bool.false_and, Bool.false_eq_true, if_false, p64]
theorem wrap_u8_eq (n : Int) : IntKind.u8.wrap n = n % 256 := by
  simp only [IntKind.wrap, IntKind.signed, IntKind.bits, Bool.false_and, Bool.false_eq_true, if_false]; rfl
theorem wrap_u32_eq (n : Int) : IntKind.u32.wrap n = n % 4294967296 := by
  simp only [IntKind.wrap, IntKind.signed, IntKind.bits, Bool.false_and, Bool.false_eq_true, if_false]; rfl
theorem wrap_i64 {n : Int} (h1 : -9223372036854775808 ≤ n) (h2 : n ≤ 9223372036854775807) : IntKind.i64.wrap n = n := by rw [wrap_i64_eq]; omega
theorem wrap_u64 {n : Int} (h1 : 0 ≤ n) (h2 : n ≤ 18446744073709551615) : IntKind.u64.wrap n = n := by rw [wrap_u64_eq]; omega
theorem wrap_u8 {n : Int} (h1 : 0 ≤ n) (h2 : n ≤ 255) : IntKind.u8.wrap n = n := by rw [wrap_u8_eq]; omega
theorem wrap_u32 {n : Int} (h1 : 0 ≤ n) (h2 : n ≤ 4294967295) : IntKind.u32.wrap n = n := by rw [wrap_u32_eq]; omega

section
variable {Γ : Cx} {ops : Array Oper} {rest : List Oper} {ρ : Nat → Value} {I : Mem} {L : List HP} {Q : Post} {ty : TypeId} {ps : String} {af : Array Edge}

section
variable {d t t' : Nat} {x y : Operand} {k : IntKind} {m n z : Int}
theorem Val.add (hx : ev ρ x = .int k m) (hy : ev ρ y = .int k n) (hz : k.wrap (m + n) = z) : Val Γ ρ I L (.binOp .add t x y t') ty ((.int k z)) :=
  fun w _ => by subst hz; simp only [execOp, hx, hy]; simp [eqGuard, binOp, Op.intArith]; all_goals rfl
theorem Val.sub (hx : ev ρ x = .int k m) (hy : ev ρ y = .int k n) (hz : k.wrap (m - n) = z) : Val Γ ρ I L (.binOp .sub t x y t') ty ((.int k z)) :=
  fun w _ => by subst hz; simp only [execOp, hx, hy]; simp [eqGuard, binOp, Op.intArith]; all_goals rfl
theorem Val.mul (hx : ev ρ x = .int k m) (hy : ev ρ y = .int k n) (hz : k.wrap (m * n) = z) : Val Γ ρ I L (.binOp .mul t x y t') ty ((.int k z)) :=
  fun w _ => by subst hz; simp only [execOp, hx, hy]; simp [eqGuard, binOp, Op.intArith]; all_goals rfl
theorem Val.quo (hx : ev ρ x = .int k m) (hy : ev ρ y = .int k n) (h0 : n ≠ 0) (hz : k.wrap (m.tdiv n) = z) : Val Γ ρ I L (.binOp .quo t x y t') ty ((.int k z)) :=
  fun w _ => by subst hz; simp only [execOp, hx, hy]; simp [eqGuard, binOp, Op.intDiv, h0]; all_goals rfl
theorem Val.rem (hx : ev ρ x = .int k m) (hy : ev ρ y = .int k n) (h0 : n ≠ 0) (hz : m.tmod n = z) : Val Γ ρ I L (.binOp .rem t x y t') ty ((.int k z)) :=
  fun w _ => by subst hz; simp only [execOp, hx, hy]; simp [eqGuard, binOp, Op.intDiv, h0]; all_goals rfl
theorem Val.and (hx : ev ρ x = .int k m) (hy : ev ρ y = .int k n) (hz : bits .and k m n = z) : Val Γ ρ I L (.binOp .and t x y t') ty ((.int k z)) :=
  fun w _ => by subst hz; simp only [execOp, hx, hy]; simp [eqGuard, binOp, Op.intBits, bits]; all_goals rfl
theorem Val.or (hx : ev ρ x = .int k m) (hy : ev ρ y = .int k n) (hz : bits .or k m n = z) : Val Γ ρ I L (.binOp .or t x y t') ty ((.int k z)) :=
  fun w _ => by subst hz; simp only [execOp, hx, hy]; simp [eqGuard, binOp, Op.intBits, bits]; all_goals rfl
theorem Val.xor (hx : ev ρ x = .int k m) (hy : ev ρ y = .int k n) (hz : bits .xor k m n = z) : Val Γ ρ I L (.binOp .xor t x y t') ty ((.int k z)) :=
  fun w _ => by subst hz; simp only [execOp, hx, hy]; simp [eqGuard, binOp, Op.intBits, bits]; all_goals rfl
theorem Val.andNot (hx : ev ρ x = .int k m) (hy : ev ρ y = .int k n) (hz : bits .andNot k m n = z) : Val Γ ρ I L (.binOp .andNot t x y t') ty ((.int k z)) :=
  fun w _ => by subst hz; simp only [execOp, hx, hy]; simp [eqGuard, binOp, Op.intBits, bits]; all_goals rfl
theorem Val.shl {k' : IntKind} (hx : ev ρ x = .int k m) (hy : ev ρ y = .int k' n) (h0 : 0 ≤ n) (hz : k.wrap (m * 2 ^ (min n.toNat k.bits)) = z) : Val Γ ρ I L (.binOp .shl t x y t') ty ((.int k z)) :=
  fun w _ => by
    have h0' : ¬ n < 0 := by omega
    subst hz; simp only [execOp, hx, hy]; simp [eqGuard, binOp, Op.shift, h0']; all_goals rfl
theorem Val.shr {k' : IntKind} (hx : ev ρ x = .int k m) (hy : ev ρ y = .int k' n) (h0 : 0 ≤ n) (hz : m.fdiv (2 ^ (min n.toNat k.bits)) = z) : Val Γ ρ I L (.binOp .shr t x y t') ty ((.int k z)) :=
  fun w _ => by
    have h0' : ¬ n < 0 := by omega
    subst hz; simp only [execOp, hx, hy]; simp [eqGuard, binOp, Op.shift, h0']; all_goals rfl
theorem Val.eql {b : Bool} (hx : ev ρ x = .int k m) (hy : ev ρ y = .int k n) (hb : (m == n) = b) : Val Γ ρ I L (.binOp .eql t x y t') ty ((.bool b)) :=
  fun w _ => by subst hb; simp only [execOp, hx, hy]; simp [eqGuard, binOp, Op.intCmp]; all_goals rfl
theorem Val.neq {b : Bool} (hx : ev ρ x = .int k m) (hy : ev ρ y = .int k n) (hb : (m != n) = b) : Val Γ ρ I L (.binOp .neq t x y t') ty ((.bool b)) :=
  fun w _ => by subst hb; simp only [execOp, hx, hy]; simp [eqGuard, binOp, Op.intCmp]; all_goals rfl
theorem Val.lss {b : Bool} (hx : ev ρ x = .int k m) (hy : ev ρ y = .int k n) (hb : decide (m < n) = b) : Val Γ ρ I L (.binOp .lss t x y t') ty ((.bool b)) :=
  fun w _ => by subst hb; simp only [execOp, hx, hy]; simp [eqGuard, binOp, Op.intCmp]; all_goals rfl
theorem Val.leq {b : Bool} (hx : ev ρ x = .int k m) (hy : ev ρ y = .int k n) (hb : decide (m ≤ n) = b) : Val Γ ρ I L (.binOp .leq t x y t') ty ((.bool b)) :=
  fun w _ => by subst hb; simp only [execOp, hx, hy]; simp [eqGuard, binOp, Op.intCmp]; all_goals rfl
theorem Val.gtr {b : Bool} (hx : ev ρ x = .int k m) (hy : ev ρ y = .int k n) (hb : decide (n < m) = b) : Val Γ ρ I L (.binOp .gtr t x y t') ty ((.bool b)) :=
  fun w _ => by subst hb; simp only [execOp, hx, hy]; simp [eqGuard, binOp, Op.intCmp]; all_goals rfl
theorem Val.geq {b : Bool} (hx : ev ρ x = .int k m) (hy : ev ρ y = .int k n) (hb : decide (n ≤ m) = b) : Val Γ ρ I L (.binOp .geq t x y t') ty ((.bool b)) :=
  fun w _ => by subst hb; simp only [execOp, hx, hy]; simp [eqGuard, binOp, Op.intCmp]; all_goals rfl
end
/-- '==' of bools. -/
class BoolK (P : Program) (t : Nat) : Prop where
  is : P.underlying t = some .bool
theorem run_equalInB {P : Program} {t : Nat} (h : P.underlying t = some .bool) (dp : Nat) (a b : Bool) (w : World) : (Op.equalIn (dp + 1) t (.bool a) (.bool b)).run P w = .ok (a == b) w := by
  unfold Op.equalIn
  simp only [Sem.run_bind, run_underlying h, Result.andThen_ok]; rfl
theorem run_eqlB {P : Program} {t : Nat} (h : P.underlying t = some .bool) (a b : Bool) (w : World) : (Op.equal t (.bool a) (.bool b)).run P w = .ok (a == b) w := run_equalInB h 9999 a b w
theorem Val.eqlB {t t' : Nat} {x y : Operand} {a b : Bool} [hk : BoolK Γ.P t] (hx : ev ρ x = .bool a) (hy : ev ρ y = .bool b) : Val Γ ρ I L (.binOp .eql t x y t') ty ((.bool (a == b))) :=
  fun w _ => by simp only [execOp, hx, hy]; simp [eqGuard, binOp, run_eqlB hk.is]; all_goals rfl
theorem Val.neqB {t t' : Nat} {x y : Operand} {a b : Bool} [hk : BoolK Γ.P t] (hx : ev ρ x = .bool a) (hy : ev ρ y = .bool b) : Val Γ ρ I L (.binOp .neq t x y t') ty ((.bool (!(a == b)))) :=
  fun w _ => by simp only [execOp, hx, hy]; simp [eqGuard, binOp, run_eqlB hk.is]; all_goals rfl
theorem Val.convert {s t : Nat} {x : Operand} {k k' ks : IntKind} {n z : Int} [h1 : IntK Γ.P s ks] [h2 : IntK Γ.P t k] (hx : ev ρ x = .int k' n) (hz : k.wrap n = z) : Val Γ ρ I L (.convert s t x) ty ((.int k z)) :=
  fun w _ => by subst hz; simp only [execOp, hx, Go.convert, Sem.run_bind, run_underlying h1.is, run_underlying h2.is, Result.andThen_ok]; all_goals rfl

/-! ### Building values -/
def fillL (pl : Nat → Option (Nat × Nat)) : List Value → List (Nat × List Value) → Option (List Value)
  | cs, [] => some cs
  | cs, (i, vs) :: r =>
    match pl i with
    | none => none
    | some (off, size) => bif Nat.beq vs.length size && Nat.ble (off + vs.length) cs.length then fillL pl (splice cs off vs) r else none
theorem drop_add {α : Type} (A B : List α) (n : Nat) : (A ++ B).drop (A.length + n) = B.drop n := by rw [← List.drop_drop, List.drop_left]
theorem splice_mid (A B : List Value) (x : Value) (xs : List Value) : splice (A ++ x :: B) A.length xs = A ++ xs ++ (x :: B).drop xs.length := by
  unfold splice
  rw [List.take_left, drop_add]
theorem splice_mid' (A B : List Value) (xs : List Value) : splice (A ++ B) A.length xs = A ++ xs ++ B.drop xs.length := by
  unfold splice
  rw [List.take_left, drop_add]
theorem splice_step (cs : List Value) (o : Nat) (v : Value) (vs : List Value) (h : o < cs.length) : splice (cs.set o v) (o + 1) vs = splice cs o (v :: vs) := by
  obtain ⟨A, x, B, rfl, rfl⟩ : ∃ A x B, cs = A ++ x :: B ∧ o = A.length :=
    ⟨cs.take o, cs[o], cs.drop (o + 1), by simp, by simp; omega⟩
  rw [splice_mid, List.set_append_right _ _ (Nat.le_refl _)]
  simp only [Nat.sub_self, List.set_cons_zero, List.length_cons, List.drop_succ_cons]
  have := splice_mid' (A ++ [v]) B vs
  simp only [List.append_assoc, List.cons_append, List.nil_append, List.length_append, List.length_cons, List.length_nil, Nat.zero_add] at this ⊢
  exact this
theorem fold_splice (vs : List Value) : ∀ (cs : List Value) (off : Nat), off + vs.length ≤ cs.length →
    (vs.toArray.zipIdx.foldl (fun (a : Array Value) (p : Value × Nat) => a.setIfInBounds (off + p.2) p.1) cs.toArray) = (splice cs off vs).toArray := by
  have key : ∀ (vs : List Value) (k : Nat) (cs : List Value) (off : Nat), off + k + vs.length ≤ cs.length →
      ((vs.zipIdx k).foldl (fun (a : Array Value) (p : Value × Nat) => a.setIfInBounds (off + p.2) p.1) cs.toArray) = (splice cs (off + k) vs).toArray := by
    intro vs
    induction vs with
    | nil => intro k cs off h; simp [splice]
    | cons v vs ih =>
      intro k cs off h
      simp only [List.zipIdx_cons, List.foldl_cons, List.setIfInBounds_toArray, List.length_cons] at h ⊢
      rw [ih (k + 1) _ off (by simp; omega)]
      rw [show off + (k + 1) = off + k + 1 from by omega, splice_step cs (off + k) v vs (by omega)]
  intro cs off h
  have := key vs 0 cs off (by simpa using h)
  rw [← Array.foldl_toList]
  simpa using this
theorem fill_of_fillL (pl : Nat → Option (Nat × Nat)) : ∀ (parts : List (Nat × Value)) (cs r : List Value),
    fillL pl cs (parts.map fun p => (p.1, p.2.cells.toList)) = some r → Instr.fill pl cs.toArray parts = some r.toArray
  | [], cs, r, h => by simp [fillL] at h; subst h; rfl
  | (i, v) :: parts, cs, r, h => by
    simp only [List.map_cons, fillL] at h
    cases hp : pl i with
    | none => rw [hp] at h; cases h
    | some os =>
      obtain ⟨off, size⟩ := os
      rw [hp] at h
      simp only at h
      cases hc : (Nat.beq v.cells.toList.length size && Nat.ble (off + v.cells.toList.length) cs.length) with
      | false => rw [hc] at h; cases h
      | true =>
        rw [hc] at h
        simp only [cond_true] at h
        simp only [Bool.and_eq_true] at hc
        have h1 : v.cells.size = size := by have := Nat.eq_of_beq_eq_true hc.1; simpa using this
        have h2 : off + v.cells.size ≤ cs.length := by have := Nat.le_of_ble_eq_true hc.2; simpa using this
        have ih := fill_of_fillL pl parts _ r h
        rw [← fold_splice v.cells.toList cs off (by simpa using h2)] at ih
        simp only [Instr.fill, hp, h1]
        have h3 : ¬ (cs.length < off + v.cells.size) := by omega
        rw [h1] at h3
        simp [h3]
        simpa using ih
def placesL (P : Program) (t : Nat) : Option (List (Nat × Nat)) :=
  match P.underlying t with
  | some (.struct fs) => fs.toList.mapM (fun f => (P.info? f.type).map fun i => (f.offset, i.size))
  | some (.array n e) => (P.info? e).map fun i => (List.range n).map fun j => (j * i.size, i.size)
  | _ => none
class PlK (P : Program) (t : Nat) (pl : outParam (List (Nat × Nat))) : Prop where
  is : placesL P t = some pl
def pcs (ρ : Nat → Value) (qs : List (Nat × Operand)) : List (Nat × List Value) := qs.map fun p => (p.1, (ev ρ p.2).cells.toList)
theorem fill_lookup {f g : Nat → Option (Nat × Nat)} (hfg : ∀ i x, f i = some x → g i = some x) : ∀ (qs : List (Nat × List Value)) (cs r : List Value), fillL f cs qs = some r → fillL g cs qs = some r
  | [], cs, r, h => h
  | (i, vs) :: qs, cs, r, h => by
    simp only [fillL] at h ⊢
    cases hf : f i with
    | none => rw [hf] at h; cases h
    | some x =>
      rw [hf] at h; rw [hfg i x hf]
      obtain ⟨off, size⟩ := x
      simp only at h ⊢
      cases hc : (Nat.beq vs.length size && Nat.ble (off + vs.length) cs.length) with
      | false => rw [hc] at h; cases h
      | true => rw [hc] at h; simp only [cond_true] at h ⊢; exact fill_lookup hfg qs _ r h
theorem run_buildL {P : Program} {t : Nat} {zs cs : List Value} {pl : List (Nat × Nat)} (hz : zeroK P t = some zs) (hp : placesL P t = some pl) (parts : List (Nat × Value))
    (h : fillL (pl[·]?) zs (parts.map fun p => (p.1, p.2.cells.toList)) = some cs) (w : World) : (Instr.build t parts.toArray).run P w = .ok (.agg cs.toArray) w := by
  refine run_build w t _ cs.toArray ?_
  unfold zeroK at hz
  unfold Program.built
  cases hi : P.info? t with
  | none => rw [hi] at hz; cases hz
  | some i =>
    rw [hi] at hz
    cases hzz : i.zero with
    | none => simp [hzz] at hz
    | some z =>
      simp [hzz] at hz
      have hzc : z.cells = zs.toArray := by rw [← hz]
      unfold placesL at hp
      split at hp
      · rename_i fs hfs
        rw [hfs]
        simp only [hzz, hp, hzc]
        refine fill_of_fillL _ _ _ _ (fill_lookup (fun i x hx => ?_) _ _ _ h)
        simpa using hx
      · rename_i n e he
        rw [he]
        simp only [hzz]
        cases hie : P.info? e with
        | none => rw [hie] at hp; cases hp
        | some ie =>
          rw [hie] at hp
          simp at hp
          simp only [hzc]
          refine fill_of_fillL _ _ _ _ (fill_lookup (fun i x hx => ?_) _ _ _ h)
          rw [← hp] at hx
          simp only [List.getElem?_map, List.getElem?_range] at hx
          by_cases hin : i < n
          · simp [hin] at hx; exact congrArg some hx
          · simp [hin] at hx
      · cases hp
theorem Val.build {t : Nat} {qs : List (Nat × Operand)} {zs cs : List Value} {pl : List (Nat × Nat)} [hz : ZeroK Γ.P t zs] [hp : PlK Γ.P t pl] (h : fillL (pl[·]?) zs (pcs ρ qs) = some cs) : Val Γ ρ I L (.build t qs.toArray) ty ((.agg cs.toArray)) :=
  fun w _ => by
    have h1 := run_buildL (P := Γ.P) hz.is hp.is (qs.map fun p => (p.1, ev ρ p.2)) (by simpa [pcs, Function.comp_def] using h) w
    simp only [execOp, List.map_toArray, Sem.run_bind, h1, Result.andThen_ok]
    rfl

/-! ### Slices -/
theorem Val.len {t e n len cap : Nat} {a : Option Addr} {x : Operand} [hk : SlK Γ.P t e n] (hx : ev ρ x = .slice a len cap) : Val Γ ρ I L (.call { callee := .builtin .len, args := #[x], argTypes := #[t] }) ty ((.int .i64 len)) :=
  fun w _ => by
    obtain ⟨hu, _⟩ := SlK.und hk.is
    simp only [execOp, resolve, List.map_toArray, List.map_cons, List.map_nil, hx, pure_bind, invoke, builtin, Builtin.len_]
    simp [Sem.run_bind, run_underlying hu, goInt]
    
inductive BndIs (ρ : Nat → Value) : Option Operand → Nat → Nat → Prop
  | none (d : Nat) : BndIs ρ none d d
  | some {x : Operand} {d : Nat} {k : IntKind} {e : Int} (h : ev ρ x = .int k e) (h0 : 0 ≤ e) : BndIs ρ (some x) d e.toNat
theorem run_sliceBound {P : Program} {k : IntKind} {e : Int} (h0 : 0 ≤ e) {y : Nat} (hy : e.toNat ≤ y) (c : BoundsCode) (w : World) : (Instr.sliceBound (.int k e) y c).run P w = .ok e.toNat w := by
  have : e ≤ y := by omega
  simp only [Instr.sliceBound, asIntOf, pure_bind, h0, this, and_self, if_true]; rfl
theorem Val.slice {t e n len cap l h : Nat} {a : Option Addr} {x : Operand} {lo hi : Option Operand} [hk : SlK Γ.P t e n] (hx : ev ρ x = .slice a len cap) (hl : BndIs ρ lo 0 l) (hh : BndIs ρ hi len h) (h1 : l ≤ h) (h2 : h ≤ cap) : Val Γ ρ I L (.slice t x lo hi none) ty ((.slice (if cap = l then a else a.map (·.add (l * n))) (h - l) (cap - l))) :=
  fun w _ => by
    obtain ⟨hu, ie, hie, hn⟩ := SlK.und hk.is
    have hs : (sizeOf e).run Γ.P w = .ok n w := by rw [run_sizeOf w hie]; simp [Program.cellsOf, hie, hn]
    have hb : (Instr.sliceBounds true len cap (lo.map (ev ρ)) (hi.map (ev ρ)) none).run Γ.P w = .ok (l, h, cap) w := by
      cases hl with
      | none => cases hh with
        | none => rfl
        | some g g0 => simp only [Instr.sliceBounds, Option.map_some, Option.map_none, g, pure_bind, Sem.run_bind, run_sliceBound g0 h2, Result.andThen_ok]; rfl
      | some f f0 => cases hh with
        | none => simp only [Instr.sliceBounds, Option.map_some, Option.map_none, f, pure_bind, Sem.run_bind, run_sliceBound f0 h1, Result.andThen_ok]; rfl
        | some g g0 => simp only [Instr.sliceBounds, Option.map_some, Option.map_none, f, g, pure_bind, Sem.run_bind, run_sliceBound g0 h2, run_sliceBound f0 h1, Result.andThen_ok]; rfl
    simp only [execOp, Instr.sliceAt, hx, Sem.run_bind, run_underlying hu, Result.andThen_ok, Instr.slice, hb, hs, Option.map_none]
    rfl
/-- The front of a whole array behind an address. -/
theorem Val.sliceA {t len n l h b off : Nat} {g : Bool} {x : Operand} {lo hi : Option Operand} [hk : ArK Γ.P t len g n] (hx : ev ρ x = .pointer (some ⟨b, off, none⟩)) (hl : BndIs ρ lo 0 l) (hh : BndIs ρ hi len h) (h1 : l ≤ h) (h2 : h ≤ len) : Val Γ ρ I L (.slice t x lo hi none) ty ((.slice (some (if len = l then ⟨b, off, none⟩ else ⟨b, off + l * n, none⟩)) (h - l) (len - l))) :=
  fun w _ => by
    obtain ⟨e, hu, he⟩ := ArK.und hk.is
    have hb : (Instr.sliceBounds false len len (lo.map (ev ρ)) (hi.map (ev ρ)) none).run Γ.P w = .ok (l, h, len) w := by
      cases hl with
      | none => cases hh with
        | none => rfl
        | some g g0 => simp only [Instr.sliceBounds, Option.map_some, Option.map_none, g, pure_bind, Sem.run_bind, run_sliceBound g0 h2, Result.andThen_ok]; rfl
      | some f f0 => cases hh with
        | none => simp only [Instr.sliceBounds, Option.map_some, Option.map_none, f, pure_bind, Sem.run_bind, run_sliceBound f0 h1, Result.andThen_ok]; rfl
        | some g g0 => simp only [Instr.sliceBounds, Option.map_some, Option.map_none, f, g, pure_bind, Sem.run_bind, run_sliceBound g0 h2, run_sliceBound f0 h1, Result.andThen_ok]; rfl
    simp only [execOp, Instr.sliceAt, hx, Sem.run_bind, run_underlying hu, Result.andThen_ok, Instr.sureAddr, pure_bind, Option.map_none, hb, TyK.size he, addr_add]
    rfl
end
theorem and_mask32 (y : Int) (h0 : 0 ≤ y) (h1 : y ≤ 18446744073709551615) : Go.bits .and .u64 y 4294967295 = y % 4294967296 := by
  obtain ⟨n, rfl⟩ := Int.eq_ofNat_of_zero_le h0
  have hn : n < 2 ^ 64 := by omega
  unfold Go.bits
  show IntKind.u64.wrap (((BitVec.ofInt 64 (n : Int)) &&& (BitVec.ofInt 64 4294967295)).toNat : Int) = _
  have e1 : (BitVec.ofInt 64 (n : Int)).toNat = n := by simp; omega
  have e2 : (BitVec.ofInt 64 4294967295).toNat = 2 ^ 32 - 1 := by rfl
  rw [BitVec.toNat_and, e1, e2, Nat.and_two_pow_sub_one_eq_mod, wrap_u64_eq]
  omega
theorem shr_u64 {s y : Int} (p : Int) (hp : (2 : Int) ^ (min s.toNat IntKind.u64.bits) = p) (h0 : 0 < p) : y.fdiv (2 ^ (min s.toNat IntKind.u64.bits)) = y / p := by
  rw [hp, Int.fdiv_eq_ediv_of_nonneg _ (by omega)]
theorem shr_i64 {s y : Int} (p : Int) (hp : (2 : Int) ^ (min s.toNat IntKind.i64.bits) = p) (h0 : 0 < p) : y.fdiv (2 ^ (min s.toNat IntKind.i64.bits)) = y / p := by
  rw [hp, Int.fdiv_eq_ediv_of_nonneg _ (by omega)]
end Go.Sl
