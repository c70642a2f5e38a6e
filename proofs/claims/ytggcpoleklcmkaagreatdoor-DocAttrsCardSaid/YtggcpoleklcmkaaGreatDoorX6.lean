/-
  Arguments that the kit's words read as data, opened: their cells, leaf by leaf; slices' elements.
-/
import Derived.Test.YtggcpoleklcmkaaGreatDoorX2
import Derived.Deep.Slices
namespace Go.Sl
set_option linter.unusedVariables false
set_option linter.unusedSimpArgs false
open Go.RowKit Go.ChangeShapes Go.WideShapes
section
variable {H : Type} {enc : TypeId × Value → H} {P : Program} {W : World} {t e : TypeId} {cs : List Value}
/-- These cells read as data of type t. -/
def TrodOk (enc : TypeId × Value → H) (P : Program) (W : World) (t : TypeId) (cs : List Value) : Prop := ∃ fuel x, DataW.trod enc P W 0 (fun _ => true) true fuel t cs = some x
theorem TrodOk.of {v : Value} {d : DataW H} {ps : List MemPlace} (h : DataW.Trod enc P W 0 (fun _ => true) true t v d ps) : TrodOk enc P W t v.cells.toList := by
  obtain ⟨f, h⟩ := h; exact ⟨f, _, h⟩
theorem TrodOk.int {k : IntKind} (h : TrodOk enc P W t cs) (ht : P.underlying t = some (.int k)) : ∃ n, cs = [.int k n] ∧ k.min ≤ n ∧ n ≤ k.max := by
  obtain ⟨f, x, h⟩ := h
  obtain ⟨n, hc, _, hw⟩ := DataW.trod_int ht h
  simp [Lit.wf] at hw
  exact ⟨n, hc, hw⟩
theorem TrodOk.bool (h : TrodOk enc P W t cs) (ht : P.underlying t = some .bool) : ∃ b, cs = [.bool b] := by
  obtain ⟨f, x, h⟩ := h
  obtain ⟨n, hc, _⟩ := DataW.trod_bool ht h
  exact ⟨n, hc⟩
theorem TrodOk.slice {sz : Nat} (h : TrodOk enc P W t cs) (ht : slk P t = some (e, sz)) (hsz : 0 < sz) :
    ∃ a len cap, cs = [.slice a len cap] ∧ (len ≤ cap ∧ cap ≤ maxLen) ∧ (len = 0 ∨ ∃ b off, a = some ⟨b, off, none⟩ ∧ ∀ i, i < len → ∃ C, C.length = sz ∧ At (heapOf W) b (off + i * sz) C ∧ TrodOk enc P W e C) := by
  obtain ⟨f, x, h⟩ := h
  obtain ⟨hu, ie, hie, hn⟩ := SlK.und ht
  have hce : P.cellsOf e = sz := by simp [Program.cellsOf, hie, hn]
  rcases Go.Deep.open_slice hu h with ⟨rfl, _⟩ | ⟨a, len, cap, m, n, D, Pl, rfl, _, hl, hm, hmm, _, hx⟩
  · exact ⟨none, 0, 0, rfl, ⟨Nat.le_refl _, Nat.zero_le _⟩, .inl rfl⟩
  · have hml : len ≤ m := by rw [hmm]; simp; omega
    refine ⟨some a, len, cap, rfl, ⟨hl, hm⟩, ?_⟩
    rcases Nat.eq_zero_or_pos len with h0 | h0
    · exact .inl h0
    right
    obtain ⟨b, off, s⟩ := a
    have hs : s = none := by
      obtain ⟨cs', h1, _⟩ := hx 0 (by omega)
      obtain ⟨_, hlen, hcell⟩ := World.cells?_some h1
      have := hcell 0 (by omega)
      rw [Nat.zero_mul] at this
      have hc0 : cs'[0]? = some (cs'[0]'(by omega)) := List.getElem?_eq_getElem (by omega)
      rw [hc0] at this
      simp only [Addr.add, if_true, World.cell?] at this
      cases s with
      | none => rfl
      | some s =>
        split at this
        · simp at this
        · cases this
    subst hs
    refine ⟨b, off, rfl, fun i hi => ?_⟩
    obtain ⟨cs', h1, h2⟩ := hx i (by omega)
    rw [hce] at h1
    obtain ⟨_, hlen, hcell⟩ := World.cells?_some h1
    refine ⟨cs', hlen, ?_, n, _, h2⟩
    have hc := fun j hj => hcell j hj
    simp only [addr_add] at hc
    have h00 := hc 0 (by omega)
    have hlt : 0 < cs'.length := by omega
    rw [List.getElem?_eq_getElem hlt] at h00
    unfold World.cell? at h00
    cases hb : W.heap[b]? with
    | none => simp [hb] at h00
    | some o =>
      cases o with
      | cells c ty fr =>
        refine ⟨c, ty, fr, hb, fun j v hj => ?_⟩
        have hjl : j < cs'.length := by
          rcases Nat.lt_or_ge j cs'.length with h | h
          · exact h
          · rw [List.getElem?_eq_none h] at hj; cases hj
        have := hc j (by omega)
        rw [hj] at this
        simpa [World.cell?, hb] using this
      | _ => simp [hb] at h00

/-! leaf by leaf -/
def LeafOk (enc : TypeId × Value → H) (P : Program) (W : World) : List TypeId → List Value → Prop
  | [], [] => True
  | t :: l, c :: r => TrodOk enc P W t [c] ∧ LeafOk enc P W l r
  | _, _ => False
theorem LeafOk.cons {t : TypeId} {l : List TypeId} (h : LeafOk enc P W (t :: l) cs) : ∃ c r, cs = c :: r ∧ TrodOk enc P W t [c] ∧ LeafOk enc P W l r := by
  cases cs with
  | nil => exact h.elim
  | cons c r => exact ⟨c, r, rfl, h.1, h.2⟩
theorem LeafOk.nil (h : LeafOk enc P W [] cs) : cs = [] := by
  cases cs with
  | nil => rfl
  | cons c r => exact h.elim
theorem LeafOk.append : ∀ {l l' : List TypeId} {r r' : List Value}, LeafOk enc P W l r → LeafOk enc P W l' r' → LeafOk enc P W (l ++ l') (r ++ r')
  | [], _, [], _, _, h => h
  | _ :: _, _, _ :: _, _, ⟨h1, h2⟩, h => ⟨h1, LeafOk.append h2 h⟩
  | [], _, _ :: _, _, h, _ => h.elim
  | _ :: _, _, [], _, h, _ => h.elim
def lfields (P : Program) (rc : TypeId → Option (List TypeId)) : Nat → List Field → Option (List TypeId)
  | _, [] => some []
  | off, f :: fs => if f.offset = off then (rc f.type).bind fun ls => if P.cellsOf f.type = ls.length then (lfields P rc (off + ls.length) fs).map (ls ++ ·) else none else none
def leaves (P : Program) : Nat → TypeId → Option (List TypeId)
  | 0, _ => none
  | d + 1, t => match P.underlying t with
    | some (.struct fs) => (lfields P (leaves P d) 0 fs.toList).bind fun ls => if P.cellsOf t = ls.length then some ls else none
    | some (.array n e) => (leaves P d e).bind fun ls => if P.cellsOf e = ls.length ∧ P.cellsOf t = n * ls.length then some (List.replicate n ls).flatten else none
    | some (.int _) => some [t]
    | some .bool => some [t]
    | some .string => some [t]
    | some (.slice _) => some [t]
    | _ => none
theorem lfields_ok {rc : TypeId → Option (List TypeId)} (hrc : ∀ t ls cs, rc t = some ls → TrodOk enc P W t cs → LeafOk enc P W ls cs) : ∀ (fs : List Field) (off : Nat) (ls : List TypeId), lfields P rc off fs = some ls →
    (∀ f ∈ fs, TrodOk enc P W f.type ((cs.drop f.offset).take (P.cellsOf f.type))) → LeafOk enc P W ls ((cs.drop off).take ls.length)
  | [], off, ls, h, _ => by simp [lfields] at h; subst h; simp [LeafOk]
  | f :: fs, off, ls, h, hall => by
    simp only [lfields] at h
    split at h
    · rename_i hoff
      cases hr : rc f.type with
      | none => rw [hr] at h; simp at h
      | some l1 =>
        rw [hr] at h
        simp only [Option.bind_some] at h
        split at h
        · rename_i hc
          cases h2 : lfields P rc (off + l1.length) fs with
          | none => rw [h2] at h; simp at h
          | some l2 =>
            rw [h2] at h
            simp at h
            subst h
            have a1 := hrc _ _ _ hr (hall f (List.mem_cons_self ..))
            have a2 := lfields_ok hrc fs _ _ h2 fun g hg => hall g (List.mem_cons_of_mem _ hg)
            rw [hoff, hc] at a1
            have := a1.append a2
            rwa [List.length_append, List.take_add, List.drop_drop]
        · cases h
    · cases h
theorem trod_array {n : Nat} {fuel : Nat} {x : DataW H × List MemPlace} (ht : P.underlying t = some (.array n e)) (h : DataW.trod enc P W 0 (fun _ => true) true fuel t cs = some x) :
    cs.length = P.cellsOf t ∧ ∀ i, i < n → TrodOk enc P W e ((cs.drop (i * P.cellsOf e)).take (P.cellsOf e)) := by
  cases fuel with
  | zero => simp [DataW.trod] at h
  | succ m =>
    unfold DataW.trod at h
    rw [ht] at h
    split at h <;> simp_all
    obtain ⟨hl, xs, hp, hd⟩ := h
    intro i hi
    have h1 := mapM_some_get hp i i (by simp [hi])
    have h2 := mapM_some_length hp
    simp at h2
    rw [List.getElem?_eq_getElem (by omega)] at h1
    exact ⟨m, _, h1⟩
theorem leaf_rep {ls : List TypeId} {k : Nat} (hk : k = ls.length) : ∀ (n off : Nat), (∀ i, i < n → LeafOk enc P W ls ((cs.drop (off + i * k)).take k)) → LeafOk enc P W (List.replicate n ls).flatten ((cs.drop off).take (n * k))
  | 0, off, _ => by simp [LeafOk]
  | n + 1, off, h => by
    have h1 := h 0 (by omega)
    simp only [Nat.zero_mul, Nat.add_zero] at h1
    have h2 := leaf_rep hk n (off + k) fun i hi => by
      have := h (i + 1) (by omega)
      rwa [Nat.add_mul, Nat.one_mul, Nat.add_comm (i * k) k, ← Nat.add_assoc] at this
    rw [List.replicate_succ, List.flatten_cons, Nat.add_mul, Nat.one_mul, Nat.add_comm (n * k) k, List.take_add, List.drop_drop]
    exact h1.append h2
theorem leaves_ok : ∀ (d : Nat) (t : TypeId) (ls : List TypeId) (cs : List Value), leaves P d t = some ls → TrodOk enc P W t cs → LeafOk enc P W ls cs := by
  intro d
  induction d with
  | zero => intro t ls cs h; simp [leaves] at h
  | succ d ih =>
    intro t ls cs h hr
    have hr0 := hr
    simp only [leaves] at h
    split at h
    · rename_i fs hfs
      cases hl : lfields P (leaves P d) 0 fs.toList with
      | none => rw [hl] at h; simp at h
      | some l =>
        rw [hl] at h
        simp only [Option.bind_some] at h
        split at h
        · rename_i hc
          simp at h; subst h
          obtain ⟨f, x, hr⟩ := hr
          obtain ⟨xs, n, _, _, hlen, hsz, hget⟩ := DataW.trod_struct hfs hr
          have := lfields_ok (cs := cs) ih fs.toList 0 l hl fun g hg => by
            obtain ⟨i, hi, rfl⟩ := List.mem_iff_getElem.1 hg
            have h1 := hget i fs.toList[i] (by simp at hi ⊢)
            rw [List.getElem?_eq_getElem (by simp at hi; omega)] at h1
            exact ⟨n, _, h1⟩
          rw [List.drop_zero, List.take_of_length_le (by omega)] at this
          exact this
        · cases h
    · rename_i n e he
      cases hl : leaves P d e with
      | none => rw [hl] at h; simp at h
      | some l =>
        rw [hl] at h
        simp only [Option.bind_some] at h
        split at h
        · rename_i hc
          simp at h; subst h
          obtain ⟨f, x, hr⟩ := hr
          obtain ⟨hlen, hget⟩ := trod_array he hr
          have := leaf_rep (enc := enc) (P := P) (W := W) (cs := cs) hc.1 n 0 fun i hi => by
            rw [Nat.zero_add]
            exact ih _ _ _ hl (hget i hi)
          rw [List.drop_zero, List.take_of_length_le (by rw [hlen, hc.2, hc.1]; exact Nat.le_refl _)] at this
          exact this
        · cases h
    · rename_i k hk
      simp at h; subst h
      obtain ⟨n, rfl, _⟩ := hr.int hk
      exact ⟨hr0, trivial⟩
    · rename_i hk
      simp at h; subst h
      obtain ⟨n, rfl⟩ := hr.bool hk
      exact ⟨hr0, trivial⟩
    · rename_i hk
      simp at h; subst h
      obtain ⟨f, x, hr⟩ := hr
      obtain ⟨n, rfl, _⟩ := DataW.trod_string hk hr
      exact ⟨hr0, trivial⟩
    · rename_i e hk
      simp at h; subst h
      obtain ⟨f, x, hr⟩ := hr
      rcases DataW.trod_slice hk hr with ⟨rfl, _⟩ | ⟨a, len, cap, _, _, _, _, rfl, _⟩
      · exact ⟨hr0, trivial⟩
      · exact ⟨hr0, trivial⟩
    · cases h
class LvK (P : Program) (t : Nat) (ls : outParam (List TypeId)) : Prop where
  is : leaves P 8 t = some ls
theorem TrodOk.leaves {ls : List TypeId} (h : TrodOk enc P W t cs) [hk : LvK P t ls] : LeafOk enc P W ls cs := leaves_ok 8 t ls cs hk.is h
theorem TrodOk.i64 (h : TrodOk enc P W t cs) [hk : IntK P t .i64] : ∃ n, cs = [.int .i64 n] ∧ -9223372036854775808 ≤ n ∧ n ≤ 9223372036854775807 := h.int hk.is
theorem TrodOk.u8 (h : TrodOk enc P W t cs) [hk : IntK P t .u8] : ∃ x : Fin 256, cs = [byt x] := by
  obtain ⟨n, rfl, h0, h1⟩ := h.int hk.is
  have h0' : 0 ≤ n := h0
  have h1' : n ≤ 255 := h1
  exact ⟨⟨n.toNat, by omega⟩, by simp only [byt]; congr 2; omega⟩
theorem TrodOk.b (h : TrodOk enc P W t cs) [hk : BoolK P t] : ∃ b, cs = [.bool b] := h.bool hk.is
/-- Elements' cells, one behind the other. -/
theorem At.join {I : Mem} {b sz : Nat} {C : Nat → List Value} : ∀ (n off : Nat), 0 < n → (∀ i, i < n → (C i).length = sz ∧ At I b (off + i * sz) (C i)) → At I b off ((List.range n).map C).flatten := by
  intro n off hn h
  obtain ⟨c, ty, fr, hb, _⟩ := (h 0 hn).2
  refine ⟨c, ty, fr, hb, ?_⟩
  have key : ∀ m, m ≤ n → ∀ j v, ((List.range m).map C).flatten[j]? = some v → c[off + j]? = some v := by
    intro m
    induction m with
    | zero => intro _ j v hj; simp at hj
    | succ m ih =>
      intro hm j v hj
      rw [List.range_succ, List.map_append, List.flatten_append] at hj
      have hlen : ((List.range m).map C).flatten.length = m * sz := by
        clear hj ih
        induction m with
        | zero => simp
        | succ m ih2 =>
          rw [List.range_succ, List.map_append, List.flatten_append, List.length_append, ih2 (by omega)]
          simp only [List.map_cons, List.map_nil, List.flatten_cons, List.flatten_nil, List.append_nil]
          rw [(h m (by omega)).1, Nat.add_mul, Nat.one_mul]
      rcases Nat.lt_or_ge j (m * sz) with hlt | hge
      · rw [List.getElem?_append_left (by omega)] at hj
        exact ih (by omega) j v hj
      · rw [List.getElem?_append_right (by omega), hlen] at hj
        simp only [List.map_cons, List.map_nil, List.flatten_cons, List.flatten_nil, List.append_nil] at hj
        obtain ⟨c', ty', fr', hb', hC⟩ := (h m (by omega)).2
        rw [hb] at hb'
        cases hb'
        have := hC _ _ hj
        rwa [show off + m * sz + (j - m * sz) = off + j by omega] at this
  exact key n (Nat.le_refl _)
end
end Go.Sl
