/-
  Ranging over a map whose keys are numbers: the map lies open, the iterator beside it.
-/
import Derived.Test.YtfdeckdongonnabB3
import Derived.Maps.RangeRun
namespace Go.Sl
open Go.Ls Go.MapKept
set_option linter.unusedVariables false
/-- Two lists without doubles, one within the other. -/
theorem nodup_le {α : Type} [DecidableEq α] : ∀ (l k : List α), l.Nodup → (∀ x ∈ l, x ∈ k) → l.length ≤ k.length
  | [], _, _, _ => Nat.zero_le _
  | x :: l, k, hn, h => by
    have hx : x ∈ k := h x (List.mem_cons_self ..)
    obtain ⟨h1, h2⟩ := List.nodup_cons.1 hn
    have := nodup_le l (k.erase x) h2 fun y hy => (List.mem_erase_of_ne (fun e => h1 (by rw [← e]; exact hy))).2 (h y (List.mem_cons_of_mem _ hy))
    rw [List.length_erase_of_mem hx] at this
    have h3 := List.length_pos_of_mem hx
    simp only [List.length_cons]
    omega
def ikey : Value → Int | .int _ n => n | _ => 0
theorem MapIs.len_le {a a' : Array MapEntry} {c c' : Nat} {f : Int → Option Value} {n n' : Nat} (h : MapIs a f n) (hs : Stamped a c) (h' : MapIs a' f n') : n ≤ n' := by
  have hk : ∀ e ∈ a.toList, e.key = vi (ikey e.key) := fun e he => by
    obtain ⟨k, hk⟩ := h.2.1 e he
    rw [hk]; rfl
  have hnd : (a.toList.map fun e => ikey e.key).Nodup := by
    have h1 : (a.toList.map fun e => e.key).Nodup := hs.2.2
    have h2 : a.toList.map (fun e => e.key) = (a.toList.map fun e => ikey e.key).map vi := by
      rw [List.map_map]
      exact List.map_congr_left fun e he => hk e he
    rw [h2] at h1
    exact List.Pairwise.of_map vi (fun x y hxy e => hxy (by rw [e])) h1
  have := nodup_le _ (a'.toList.map fun e => ikey e.key) hnd fun x hx => by
    obtain ⟨e, he, rfl⟩ := List.mem_map.1 hx
    have h3 := (h.2.2 (ikey e.key) e.val).2 ⟨e, he, hk e he, rfl⟩
    obtain ⟨e', he', hk', _⟩ := (h'.2.2 _ _).1 h3
    exact List.mem_map.2 ⟨e', he', by rw [hk']; rfl⟩
  simp only [List.length_map, Array.length_toList] at this
  rw [h.1, h'.1] at this
  exact this
/-- What a map holds tells how many keys it has. -/
theorem MapIs.len {a a' : Array MapEntry} {c c' : Nat} {f : Int → Option Value} {n n' : Nat} (h : MapIs a f n) (hs : Stamped a c) (h' : MapIs a' f n') (hs' : Stamped a' c') : n = n' := Nat.le_antisymm (h.len_le (c' := c') hs h') (h'.len_le (c' := c) hs' h)
section
variable {Γ : Cx} {ops : Array Oper} {rest : List Oper} {ρ : Nat → Value} {I : Mem} {L : List HP} {Q : Post} {ty : TypeId} {ps : String} {af : Array Edge}
theorem WL.mpOpen {b n : Nat} {f : Int → Option Value} (k : Nat) (hL : L[k]? = some (mp b f n)) (next : ∀ a c, Stamped a c → MapIs a f n → WL Γ ops rest ρ I (L.set k (pt b (.map a c))) Q) : WL Γ ops rest ρ I L Q := fun x w ha hw => by
  obtain ⟨a, c, h1, h2, h3⟩ := hw.mpOpen k hL
  exact next a c h1 h2 x w ha h3
theorem WL.rangeMap {d t b c : Nat} {x : Operand} {a : Array MapEntry} {z : Value} (k : Nat) [hk : MapK Γ.P t z] (hx : ev ρ x = .map (some b)) (hL : L[k]? = some (pt b (.map a c))) (hd : Nat.blt d Γ.n = true)
    (next : ∀ r, WL Γ ops rest (upd ρ d (.pointer (some ⟨r, 0, none⟩))) I (L ++ [pt r (.mapIter (some b) c #[] c)]) Q) : WL Γ ops ({ dst := some d, op := .range t x, type := ty, pos := ps, after := af, guard := none } :: rest) ρ I L Q :=
  WL.effX (fun w hw => by
    have h1 := hw.alloc (.mapIter (some b) c #[] c)
    obtain ⟨kt, e, hm, _, _⟩ := MapK.und hk.is
    exact ⟨_, _, _, _, by simp only [execOp, hx, Sem.run_bind, run_range_map w t kt e b a c hm (hw.lookK hL), Result.andThen_ok]; rfl, h1, next _⟩) hd
theorem WL.nextMap {d b r c since c0 : Nat} {x : Operand} {a : Array MapEntry} {seen : Array Nat} (k j : Nat) (hx : ev ρ x = .pointer (some ⟨r, 0, none⟩)) (hk : L[k]? = some (pt b (.map a c))) (hj : L[j]? = some (pt r (.mapIter (some b) since seen c0)))
    (hold : ∀ x ∈ a.toList, x.born < since) (hsc : since ≤ c0) (hd : Nat.blt d Γ.n = true)
    (done : (leftOf a seen).size = 0 → WL Γ ops rest (upd ρ d (.tuple #[.bool false])) I L Q)
    (next : ∀ e ∈ (leftOf a seen).toList, WL Γ ops rest (upd ρ d (.tuple #[.bool true, e.key, e.val])) I (L.set j (pt r (.mapIter (some b) since (seen.push e.born) c))) Q) : WL Γ ops ({ dst := some d, op := .next x false, type := ty, pos := ps, after := af, guard := none } :: rest) ρ I L Q :=
  WL.effX (fun w hw => by
    rcases run_next_at (P := Γ.P) w ty r b since c0 seen a c (hw.lookK hj) (hw.lookK hk) hold hsc with ⟨h0, hrun⟩ | ⟨e, he, w1, hal, hrun⟩
    · exact ⟨_, _, _, _, by simp only [execOp, hx, Sem.run_bind, hrun, Result.andThen_ok]; rfl, hw, done h0⟩
    · have hw1 : Sat Γ.E w1 I L := hal.elim (fun e => e ▸ hw) (fun e => e ▸ hw.drew)
      have hs := heap_set (o' := .mapIter (some b) since (seen.push e.born) c) (hw1.lookK hj)
      have h4 := hw1.writeK hj (.mapIter (some b) since (seen.push e.born) c) (w1.heap.setIfInBounds r (.mapIter (some b) since (seen.push e.born) c)) hs.1 (fun i hi => hs.2 i hi)
      exact ⟨_, _, _, _, by simp only [execOp, hx, Sem.run_bind, hrun, Result.andThen_ok]; rfl, h4, next e he⟩) hd
theorem Val.entryMap {b r c since : Nat} {x : Operand} {a : Array MapEntry} {seen : Array Nat} {e : MapEntry} (k j : Nat) (hx : ev ρ x = .pointer (some ⟨r, 0, none⟩)) (hk : L[k]? = some (pt b (.map a c))) (hj : L[j]? = some (pt r (.mapIter (some b) since (seen.push e.born) c)))
    (he : e ∈ a.toList) (hn : (a.toList.map (·.born)).Nodup) : Val Γ ρ I L (.entry x) ty (.tuple #[e.key, e.val]) := fun w hw => by
  have := run_entry_at (P := Γ.P) w r b since seen a c e (hw.lookK hj) (hw.lookK hk) he hn
  simp only [execOp, hx, Sem.run_bind, this, Result.andThen_ok]
  rfl
/-- What memory tells. -/
theorem WC.know {c : Code} {p : Prop} (h : ∀ w, Sat Γ.E w I L → p) (next : p → WC Γ c ρ I L Q) : WC Γ c ρ I L Q := fun a w ha hw => next (h w hw) a w ha hw
theorem WX.know {c : Exit} {p : Prop} (h : ∀ w, Sat Γ.E w I L → p) (next : p → WX Γ c ρ I L Q) : WX Γ c ρ I L Q := fun a w ha hw => next (h w hw) a w ha hw
theorem Sat.rowOne {E : Ev} {w : World} {M : List HP} {e sz n : Nat} {v : Value} {xs : List Value} (k i : Nat) (hL : L[k]? = some (sts M)) (hM : M[i]? = some (sl e sz v n xs)) (hw : Sat E w I L) : v.oneCell' = true := by
  have h1 := hw.rowOut k i hL hM
  obtain ⟨m, hm, _, h2⟩ := h1.head
  rcases h2 with ⟨rfl, rfl⟩ | ⟨g, cap, cur, rfl, _⟩ <;> rfl
theorem Sat.mpLen {E : Ev} {w : World} {b n n' c : Nat} {f : Int → Option Value} {a : Array MapEntry} (k : Nat) (hL : L[k]? = some (mp b f n')) (h1 : Stamped a c) (h2 : MapIs a f n) (hw : Sat E w I L) : n' = n := by
  obtain ⟨a', c', h3, h4, _⟩ := hw.mpOpen k hL
  exact h4.len h3 h2 h1
theorem WL.mpClose {b n c : Nat} {f : Int → Option Value} {a : Array MapEntry} (k : Nat) (hL : L[k]? = some (pt b (.map a c))) (h1 : Stamped a c) (h2 : MapIs a f n) (next : WL Γ ops rest ρ I (L.set k (mp b f n)) Q) : WL Γ ops rest ρ I L Q := fun x w ha hw => next x w ha (hw.mpClose k hL h1 h2)
theorem WX.mpClose {c' : Exit} {b n c : Nat} {f : Int → Option Value} {a : Array MapEntry} (k : Nat) (hL : L[k]? = some (pt b (.map a c))) (h1 : Stamped a c) (h2 : MapIs a f n) (next : WX Γ c' ρ I (L.set k (mp b f n)) Q) : WX Γ c' ρ I L Q := fun x w ha hw => next x w ha (hw.mpClose k hL h1 h2)
/-- A call that reads one row and makes another, which is laid behind the rows elsewhere. -/
theorem WL.callRowNew {d : Nat} {f : FuncId} {x : Operand} {args : List Operand} {ats : Array TypeId} {fs cp vs : List Value} {M N : List HP} {p : HP} {R : Value → HP → Prop} (k i j : Nat) [hf : FnK Γ.P f]
    (hx : ev ρ x = .func (.func f) fs.toArray cp.toArray) (hv : fs ++ args.map (ev ρ) ++ cp = vs) (hL : L[k]? = some (sts M)) (hM : M[i]? = some p) (hN : L[j]? = some (sts N)) (hc : Ctr Γ.P f vs I [p] (fun v I' L' => I' = I ∧ ∃ q, R v q ∧ L' = [p, q])) (hd : Nat.blt d Γ.n = true)
    (next : ∀ v q, R v q → WL Γ ops rest (upd ρ d v) I (L.set j (sts (N ++ [q]))) Q) :
    WL Γ ops ({ dst := some d, op := .call { callee := .value x, args := args.toArray, argTypes := ats }, type := ty, pos := ps, after := af, guard := none } :: rest) ρ I L Q :=
  WL.conv (fun w hw => hw.rowOut k i hL hM) (WL.call [0] hx hv rfl hc hd fun v I' L' hI hR => by
    obtain ⟨rfl, q, hq, rfl⟩ := hR
    refine fun a w ha hw => next v q hq a w ha ?_
    have h1 : Sat Γ.E w I' (p :: q :: L.set k (sts (M.eraseIdx i))) := hw.perm (List.perm_append_comm (l₂ := [p, q]))
    have h2 := Sat.rowBack (L := q :: L) (M := M) (p := p) (q := p) (k + 1) i hL hM h1
    rw [set_same hM, List.set_cons_succ, set_same hL] at h2
    exact h2.rowNew j hN)
end
end Go.Sl
