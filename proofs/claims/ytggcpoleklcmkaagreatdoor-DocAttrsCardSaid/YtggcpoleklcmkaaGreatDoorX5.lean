/-
  Ranging over a map whose keys are numbers: the map lies open, the iterator beside it.
-/
import Derived.Test.YtggcpoleklcmkaaGreatDoorX3
import Derived.Maps.RangeRun
namespace Go.Sl
open Go.Ls Go.MapKept
set_option linter.unusedVariables false
set_option linter.unusedSimpArgs false
/-- Two lists without doubles, one within the other. -/
theorem nodup_le {α : Type} [DecidableEq α] : ∀ (l k : List α), l.Nodup → (∀ x ∈ l, x ∈ k) → l.length ≤ k.length
  | [], _, _, _ => Nat.zero_le _
  | x :: l, k, hn, h => by
    have hx : x ∈ k := h x (List.mem_cons_self ..)
    obtain ⟨h1, h2⟩ := List.nodup_cons.1 hn
    have := nodup_le l (k.erase x) h2 fun y hy => (List.mem_erase_of_ne (fun e => h1 (by rw [← e]; exact hy))).2 (h y (List.mem_cons_of_mem _ hy))
    rw [List.length_erase_of_mem hx] at this
    have h3 := List.length_pos_of_mem hx
    simp only [List.length_cons]
    omega
def ikey : Value → Int | .int _ n => n | _ => 0
theorem MapIs.len_le {a a' : Array MapEntry} {c c' : Nat} {f : Int → Option Value} {n n' : Nat} (h : MapIs a f n) (hs : Stamped a c) (h' : MapIs a' f n') : n ≤ n' := by
  have hk : ∀ e ∈ a.toList, e.key = vi (ikey e.key) := fun e he => by
    obtain ⟨k, hk⟩ := h.2.1 e he
    rw [hk]; rfl
  have hnd : (a.toList.map fun e => ikey e.key).Nodup := by
    have h1 : (a.toList.map fun e => e.key).Nodup := hs.2.2
    have h2 : a.toList.map (fun e => e.key) = (a.toList.map fun e => ikey e.key).map vi := by
      rw [List.map_map]
      exact List.map_congr_left fun e he => hk e he
    rw [h2] at h1
    exact List.Pairwise.of_map vi (fun x y hxy e => hxy (by rw [e])) h1
  have := nodup_le _ (a'.toList.map fun e => ikey e.key) hnd fun x hx => by
    obtain ⟨e, he, rfl⟩ := List.mem_map.1 hx
    have h3 := (h.2.2 (ikey e.key) e.val).2 ⟨e, he, hk e he, rfl⟩
    obtain ⟨e', he', hk', _⟩ := (h'.2.2 _ _).1 h3
    exact List.mem_map.2 ⟨e', he', by rw [hk']; rfl⟩
  simp only [List.length_map, Array.length_toList] at this
  rw [h.1, h'.1] at this
  exact this
/-- What a map holds tells how many keys it has. -/
theorem MapIs.len {a a' : Array MapEntry} {c c' : Nat} {f : Int → Option Value} {n n' : Nat} (h : MapIs a f n) (hs : Stamped a c) (h' : MapIs a' f n') (hs' : Stamped a' c') : n = n' := Nat.le_antisymm (h.len_le (c' := c') hs h') (h'.len_le (c' := c) hs' h)
section
variable {Γ : Cx} {ops : Array Oper} {rest : List Oper} {ρ : Nat → Value} {I : Mem} {L : List HP} {Q : Post} {ty : TypeId} {ps : String} {af : Array Edge}
theorem WL.mpOpen {b n : Nat} {f : Int → Option Value} (k : Nat) (hL : L[k]? = some (mp b f n)) (next : ∀ a c, Stamped a c → MapIs a f n → WL Γ ops rest ρ I (L.set k (pt b (.map a c))) Q) : WL Γ ops rest ρ I L Q := fun x w ha hw => by
  obtain ⟨a, c, h1, h2, h3⟩ := hw.mpOpen k hL
  exact next a c h1 h2 x w ha h3
/-- What memory tells. -/
theorem WC.know {c : Code} {p : Prop} (h : ∀ w, Sat Γ.E w I L → p) (next : p → WC Γ c ρ I L Q) : WC Γ c ρ I L Q := fun a w ha hw => next (h w hw) a w ha hw
theorem WX.know {c : Exit} {p : Prop} (h : ∀ w, Sat Γ.E w I L → p) (next : p → WX Γ c ρ I L Q) : WX Γ c ρ I L Q := fun a w ha hw => next (h w hw) a w ha hw
theorem Sat.rowOne {E : Ev} {w : World} {M : List HP} {e sz n : Nat} {v : Value} {xs : List Value} (k i : Nat) (hL : L[k]? = some (sts M)) (hM : M[i]? = some (sl e sz v n xs)) (hw : Sat E w I L) : v.oneCell' = true := by
  have h1 := hw.rowOut k i hL hM
  obtain ⟨m, hm, _, h2⟩ := h1.head
  rcases h2 with ⟨rfl, rfl⟩ | ⟨g, cap, cur, rfl, _⟩ <;> rfl
theorem WL.mpClose {b n c : Nat} {f : Int → Option Value} {a : Array MapEntry} (k : Nat) (hL : L[k]? = some (pt b (.map a c))) (h1 : Stamped a c) (h2 : MapIs a f n) (next : WL Γ ops rest ρ I (L.set k (mp b f n)) Q) : WL Γ ops rest ρ I L Q := fun x w ha hw => next x w ha (hw.mpClose k hL h1 h2)
theorem WX.mpClose {c' : Exit} {b n c : Nat} {f : Int → Option Value} {a : Array MapEntry} (k : Nat) (hL : L[k]? = some (pt b (.map a c))) (h1 : Stamped a c) (h2 : MapIs a f n) (next : WX Γ c' ρ I (L.set k (mp b f n)) Q) : WX Γ c' ρ I L Q := fun x w ha hw => next x w ha (hw.mpClose k hL h1 h2)
end
end Go.Sl

/-
  The least, the greatest; an array's element of one cell.
-/

namespace Go.Sl
open Go.Ls
set_option linter.unusedVariables false
set_option linter.unusedSimpArgs false
section
variable {Γ : Cx} {ops : Array Oper} {rest : List Oper} {ρ : Nat → Value} {I : Mem} {L : List HP} {Q : Post} {ty : TypeId} {ps : String} {af : Array Edge}
theorem Val.minI {x y : Operand} {i j : Int} {ats : Array TypeId} (hx : ev ρ x = .int .i64 i) (hy : ev ρ y = .int .i64 j) : Val Γ ρ I L (.call { callee := .builtin .min, args := #[x, y], argTypes := ats }) ty (vi (min i j)) := fun w hw => by
  have h : (if j < i then j else i) = min i j := by
    by_cases hq : j < i
    · rw [if_pos hq]; omega
    · rw [if_neg hq]; omega
  simp only [execOp, resolve, List.map_toArray, List.map_cons, List.map_nil, hx, hy, pure_bind, invoke, builtin, Builtin.min_]
  simp [Builtin.min2, h]
/-- The greatest of three. -/
theorem Val.max3 {x y z : Operand} {k : IntKind} {i j l : Int} {ats : Array TypeId} (hx : ev ρ x = .int k i) (hy : ev ρ y = .int k j) (hz : ev ρ z = .int k l) : Val Γ ρ I L (.call { callee := .builtin .max, args := #[x, y, z], argTypes := ats }) ty (.int k (max (max i j) l)) := fun w hw => by
  have h : (if j > i then j else i) = max i j := by
    by_cases hq : j > i
    · rw [if_pos hq]; omega
    · rw [if_neg hq]; omega
  have h2 : (if l > max i j then l else max i j) = max (max i j) l := by
    by_cases hq : l > max i j
    · rw [if_pos hq]; omega
    · rw [if_neg hq]; omega
  simp only [execOp, resolve, List.map_toArray, List.map_cons, List.map_nil, hx, hy, hz, pure_bind, invoke, builtin, Builtin.max_]
  simp [Builtin.max2, h, h2]
theorem Val.index1 {t l : Nat} {x y : Operand} {cs : List Value} {v : Value} {k : IntKind} {j : Int} [hk : ArK Γ.P t l false 1] (hx : ev ρ x = .agg cs.toArray) (hi : ev ρ y = .int k j) (h0 : 0 ≤ j) (h1 : j < l) (hv : cs[j.toNat]? = some v) :
    Val Γ ρ I L (.index t x y) ty v := fun w hw => by
  obtain ⟨e, hu, he⟩ := ArK.und hk.is
  have hp := run_partS he (cs := cs.toArray) (off := j.toNat * 1) (v := v) (by rw [Nat.mul_one]; simpa using hv) w
  simp only [execOp, hx, hi, Instr.index, asIntOf, pure_bind, Sem.run_bind, run_underlying hu, Result.andThen_ok]
  simp only [h0, h1, and_self, if_true, Sem.run_bind, TyK.size he, Result.andThen_ok, hp]
  rfl
/-- v := m[k], by what it comes to. -/
theorem Val.lookup1v {t b n : Nat} {x y : Operand} {i : Int} {z v : Value} {f : Int → Option Value} (k : Nat) [hk : MapK Γ.P t z] (hv : (f i).getD z = v) (hx : ev ρ x = .map (some b)) (hy : ev ρ y = vi i) (hL : L[k]? = some (mp b f n)) :
    Val Γ ρ I L (.lookup t x y false) ty v := hv ▸ Val.lookup1 k hx hy hL
end
/-- A part of what is owned, as one assertion. -/
theorem Sat.fold {E : Ev} {w : World} {I : Mem} {l' : List HP} (l : List HP) (h : Sat E w I (l ++ l')) : Sat E w I (sts l :: l') := h.imp fun m hm => sts_fold hm
theorem Sat.unfold {E : Ev} {w : World} {I : Mem} {l l' : List HP} (h : Sat E w I (sts l :: l')) : Sat E w I (l ++ l') := h.imp fun m hm => sts_unfold hm
end Go.Sl

/-
  append(nil, make([]T, n)...): new memory.
-/

namespace Go.Sl
open Go.Ls
set_option linter.unusedVariables false
set_option linter.unusedSimpArgs false
section
variable {Γ : Cx} {ops : Array Oper} {rest : List Oper} {ρ : Nat → Value} {I : Mem} {L : List HP} {Q : Post} {ty : TypeId} {ps : String} {af : Array Edge}
end
end Go.Sl
