/-
  Rules: slices that grow, calls, functions' contracts, ends, regions that draw their order.
-/
import Derived.Test.YtfdeckdongonnaaDoorSepC
namespace Go.Sl
set_option linter.unusedVariables false
set_option linter.unusedSimpArgs false
open Go.RowKit

/-! ### Slices of one's own -/
/-- The slice v of n elements (type e, sz cells each) owns a row whose first cells are xs. -/
def sl (e sz : Nat) (v : Value) (n : Nat) (xs : List Value) : HP := fun m =>
  xs.length = n * sz ∧ ((v = .slice none 0 0 ∧ n = 0) ∨
    ∃ g cap cur, v = .slice (some ⟨g, 0, none⟩) n cap ∧ m g = some (.cells cur e (0, 0)) ∧ n ≤ cap ∧ cap ≤ maxLen ∧ cur.size = cap * sz ∧ cur.toList.take (n * sz) = xs)

section
variable {E : Ev} {w w' : World} {I : Mem} {L : List HP}
theorem Sat.sl_own {e sz n : Nat} {v : Value} {xs : List Value} (h : Sat E w I (sl e sz v n xs :: L)) : w.ownsRow 0 e sz v n xs := by
  obtain ⟨m, hm, h1, h2⟩ := h.head
  refine ⟨h1, h2.imp id ?_⟩
  rintro ⟨g, cap, cur, hv, hg, r⟩
  exact ⟨g, cap, cur, hv, Nat.zero_le _, hm _ _ hg, r⟩
theorem Sat.sl_grown {e sz n n' g cap : Nat} {v : Value} {xs xs' : List Value} (h : Sat E w I (sl e sz v n xs :: L)) (ho : w'.ownsRow 0 e sz (.slice (some ⟨g, 0, none⟩) n' cap) n' xs') (hg : w.grownBy w' v.ownBlock)
    (hb : v.ownBlock = some g ∨ g = w.heap.size) : Sat E w' I (sl e sz (.slice (some ⟨g, 0, none⟩) n' cap) n' xs' :: L) := by
  obtain ⟨m, a, d, m1, m2, e1, e2, e3, ⟨hl, e4⟩, e5⟩ := h.own
  obtain ⟨hl', ho⟩ := ho
  rcases ho with ⟨hv, _⟩ | ⟨g', cap', cur', hv, _, hgc, r⟩
  · cases hv
  injection hv with hv1 hv2 hv3
  injection hv1 with hv1
  injection hv1 with hv1
  subst hv1; subst hv3
  -- where g lies
  have off2 : m2 g = none := by
    cases hx : m2 g with
    | none => rfl
    | some x =>
      exfalso
      have hlt := Mem.lt_of a (e2 _ _ hx)
      rcases hb with hb | rfl
      · rcases e4 with ⟨rfl, _⟩ | ⟨k, c, cu, rfl, hk, _⟩
        · cases hb
        · simp [Value.ownBlock] at hb; subst hb
          rcases e3 k with h | h
          · rw [h] at hk; cases hk
          · rw [h] at hx; cases hx
      · omega
  have offI : I g = none := by
    cases hx : I g with
    | none => rfl
    | some x =>
      exfalso
      have hlt := Mem.lt_of h.imm hx
      rcases hb with hb | rfl
      · rcases e4 with ⟨rfl, _⟩ | ⟨k, c, cu, rfl, hk, _⟩
        · cases hb
        · simp [Value.ownBlock] at hb; subst hb
          rcases d k with h | h
          · rw [h] at hx; cases hx
          · rw [e1 _ _ hk] at h; cases h
      · omega
  have keep : ∀ k x, (I k = some x ∨ m2 k = some x) → w.heap[k]? = some x → w'.heap[k]? = some x := by
    intro k x hk hx
    rw [hg.block k (Array.getElem?_eq_some_iff.1 hx).1 ?_]
    · exact hx
    · intro hke
      rcases e4 with ⟨rfl, _⟩ | ⟨j, c, cu, rfl, hj, _⟩
      · cases hke
      · simp [Value.ownBlock] at hke; subst hke
        rcases hk with hk | hk
        · rcases d k with h | h
          · rw [h] at hk; cases hk
          · rw [e1 _ _ hj] at h; cases h
        · rcases e3 k with h | h
          · rw [h] at hj; cases hj
          · rw [h] at hk; cases hk
  refine ⟨hg.tape.trans h.tape, hg.os.trans h.os, hg.output.trans h.output, fun k x hk => keep k x (.inl hk) (h.imm k x hk), (Mem.sing g (.cells cur' e (0, 0))).un m2, ?_, ?_, ⟨Mem.sing g (.cells cur' e (0, 0)), m2, Mem.le_un_left _ _, Mem.le_un_right ?_, ?_, ⟨hl', .inr ⟨g, cap, cur', rfl, by simp [Mem.sing], r⟩⟩, e5⟩⟩
  · intro k x hk
    unfold Mem.un Mem.sing at hk
    by_cases hkg : k = g
    · subst hkg; simp at hk; subst hk; exact hgc
    · simp [hkg] at hk; exact keep k x (.inr hk) (a k x (e2 k x hk))
  · refine Mem.dis_un (fun k => ?_) (d.le (Mem.le.refl _) e2)
    by_cases hkg : k = g
    · subst hkg; exact .inl offI
    · exact .inr (by simp [Mem.sing, hkg])
  all_goals
    intro k
    by_cases hkg : k = g
    · subst hkg; exact .inr off2
    · exact .inl (by simp [Mem.sing, hkg])
theorem Sat.sl_nil {e sz : Nat} (h : Sat E w I L) : Sat E w I (sl e sz (.slice none 0 0) 0 [] :: L) :=
  h.imp fun m hm => ⟨fun _ => none, m, fun _ _ h => (by cases h), Mem.le.refl _, fun _ => .inl rfl, ⟨by simp, .inl ⟨rfl, rfl⟩⟩, hm⟩
theorem Sat.box_sl {e sz g n : Nat} {xs : List Value} (h : Sat E w I (box g e xs :: L)) (hn : xs.length = n * sz) (hm : n ≤ maxLen) : Sat E w I (sl e sz (.slice (some ⟨g, 0, none⟩) n n) n xs :: L) :=
  h.imp fun m ⟨m1, m2, h1, h2, h3, h4, h5⟩ => ⟨m1, m2, h1, h2, h3, ⟨hn, .inr ⟨g, n, xs.toArray, rfl, h4, Nat.le_refl _, hm, by simp [hn], by simp [← hn]⟩⟩, h5⟩
/-- A finished slice is laid into the immutable heap. -/
theorem Sat.sl_freeze {e sz n : Nat} {v : Value} {xs : List Value} (h : Sat E w I (sl e sz v n xs :: L)) :
    ∃ I', I.le I' ∧ Sat E w I' L ∧ ((v = .slice none 0 0 ∧ n = 0 ∧ xs = []) ∨ ∃ g cap, v = .slice (some ⟨g, 0, none⟩) n cap ∧ n ≤ cap ∧ cap ≤ maxLen ∧ At I' g 0 xs) := by
  obtain ⟨m, a, d, m1, m2, e1, e2, e3, ⟨hl, e4⟩, e5⟩ := h.own
  rcases e4 with ⟨rfl, rfl⟩ | ⟨g, cap, cur, rfl, hg, h1, h2, h3, h4⟩
  · exact ⟨I, Mem.le.refl _, ⟨h.tape, h.os, h.output, h.imm, m2, fun k x hk => a k x (e2 k x hk), d.le (Mem.le.refl _) e2, e5⟩, .inl ⟨rfl, rfl, by simpa using hl⟩⟩
  · have hb : Sat E w I (pt g (.cells cur e (0, 0)) :: L) := ⟨h.tape, h.os, h.output, h.imm, m, a, d, m1, m2, e1, e2, e3, hg, e5⟩
    refine ⟨_, hb.freeze.2, hb.freeze.1, .inr ⟨g, cap, rfl, h1, h2, cur, e, (0, 0), by simp [Mem.ins], fun j v hj => ?_⟩⟩
    rw [← h4, List.getElem?_take] at hj
    split at hj
    · simpa using hj
    · cases hj
end

section
variable {Γ : Cx} {ops : Array Oper} {rest : List Oper} {ρ : Nat → Value} {I : Mem} {L : List HP} {Q : Post} {ty : TypeId} {ps : String} {af : Array Edge}

/-- The list of what is owned, in another order, or less of it, or other words for it. -/
theorem WL.conv {L' : List HP} (h : ∀ w, Sat Γ.E w I L → Sat Γ.E w I L') (next : WL Γ ops rest ρ I L' Q) : WL Γ ops rest ρ I L Q := fun a w ha hw => next a w ha (h w hw)
theorem WC.conv {c : Code} {L' : List HP} (h : ∀ w, Sat Γ.E w I L → Sat Γ.E w I L') (next : WC Γ c ρ I L' Q) : WC Γ c ρ I L Q := fun a w ha hw => next a w ha (h w hw)
theorem WC.convX {c : Code} (h : ∀ w, Sat Γ.E w I L → ∃ I' L', Sat Γ.E w I' L' ∧ WC Γ c ρ I' L' Q) : WC Γ c ρ I L Q := fun a w ha hw => by
  obtain ⟨I', L', hw', next⟩ := h w hw; exact next a w ha hw'
theorem WX.conv {e : Exit} {L' : List HP} (h : ∀ w, Sat Γ.E w I L → Sat Γ.E w I L') (next : WX Γ e ρ I L' Q) : WX Γ e ρ I L Q := fun a w ha hw => next a w ha (h w hw)
theorem WX.convX {e : Exit} (h : ∀ w, Sat Γ.E w I L → ∃ I' L', Sat Γ.E w I' L' ∧ WX Γ e ρ I' L' Q) : WX Γ e ρ I L Q := fun a w ha hw => by
  obtain ⟨I', L', hw', next⟩ := h w hw; exact next a w ha hw'

class BytK (P : Program) (e : Nat) (n : outParam Nat) : Prop where
  is : (P.info? e).map (·.bytes) = some n

theorem zero_cells {P : Program} {t : Nat} {zs : List Value} (h : zeroK P t = some zs) : ∃ i z, P.info? t = some i ∧ i.zero = some z ∧ z.cells = zs.toArray := by
  unfold zeroK at h
  cases hi : P.info? t with
  | none => rw [hi] at h; cases h
  | some i => cases hz : i.zero with
    | none => rw [hi] at h; simp [hz] at h
    | some z => rw [hi] at h; simp [hz] at h; exact ⟨i, z, rfl, hz, by rw [← h]⟩

/-- append(s, x...) to a slice of one's own; x is read. -/
theorem WL.append {d t e sz by_ n m c b off : Nat} {s x : Operand} {v : Value} {xs ys zs : List Value} (k : Nat) [hk : SlK Γ.P t e sz] [hz : ZeroK Γ.P e zs] [hb : BytK Γ.P e by_]
    (hs : ev ρ s = v) (hL : L[k]? = some (sl e sz v n xs)) (hx : ev ρ x = .slice (some ⟨b, off, none⟩) m c) (hr : Rd I L b off ys) (hy : ys.length = m * sz) (h1 : ys.all Value.oneCell' = true) (hzs : zs.length = sz) (hsz : 0 < sz) (hm : 0 < m)
    (hbound : (n + m) * by_ ≤ 140737488355328) (hmax : n + m ≤ maxLen) (hd : Nat.blt d Γ.n = true)
    (next : ∀ g cap, WL Γ ops rest (upd ρ d (.slice (some ⟨g, 0, none⟩) (n + m) cap)) I (L.set k (sl e sz (.slice (some ⟨g, 0, none⟩) (n + m) cap) (n + m) (xs ++ ys))) Q) :
    WL Γ ops ({ dst := some d, op := .call { callee := .builtin .append, args := #[s, x], argTypes := #[t, t] }, type := ty, pos := ps, after := af, guard := none } :: rest) ρ I L Q :=
  WL.effX (fun w hw => by
    obtain ⟨hu, ie, hie, hn⟩ := SlK.und hk.is
    obtain ⟨i, z, hi, hz1, hz2⟩ := zero_cells hz.is
    have hii : ie = i := by rw [hi] at hie; exact (Option.some.inj hie).symm
    subst hii
    have hby : ie.bytes = by_ := by have := hb.is; rw [hi] at this; simpa using this
    have hw1 := hw.perm (pull k L _ hL)
    obtain ⟨g, cap, w', hrun, hown, hgr, hat, hlt⟩ := run_append_lies (P := Γ.P) (w := w) t ty 0 e ie z sz by_ hu hi hz1 hn hby (by rw [hz2]; simpa using hzs) hsz v n xs hw1.sl_own ⟨b, off, none⟩ m c ys hy
      (fun j u hj => by rw [addr_add]; exact hr Γ.E w hw j u hj) (fun u hu => (List.all_eq_true.1 h1) u hu) hm hmax hbound (Nat.zero_le _) w.heap.size rfl
    refine ⟨_, w', I, _, ?_, (hw1.sl_grown hown hgr hat).perm (push_back k L _ _ hL), next g cap⟩
    simp only [execOp, resolve, List.map_toArray, List.map_cons, List.map_nil, hs, hx, pure_bind, invoke, builtin, Sem.run_bind, hrun, Result.andThen_ok]
    rfl) hd
/-- append(s, x...), x empty. -/
theorem WL.append0 {d t e sz n c : Nat} {ax : Option Addr} {s x : Operand} {v : Value} {xs : List Value} (k : Nat) [hk : SlK Γ.P t e sz]
    (hs : ev ρ s = v) (hL : L[k]? = some (sl e sz v n xs)) (hx : ev ρ x = .slice ax 0 c) (hd : Nat.blt d Γ.n = true)
    (next : WL Γ ops rest (upd ρ d v) I L Q) :
    WL Γ ops ({ dst := some d, op := .call { callee := .builtin .append, args := #[s, x], argTypes := #[t, t] }, type := ty, pos := ps, after := af, guard := none } :: rest) ρ I L Q :=
  WL.val (fun w hw => by
    obtain ⟨hu, ie, hie, hn⟩ := SlK.und hk.is
    have ho := (hw.perm (pull k L _ hL)).sl_own
    have hsrc : Src Γ.P ie.size t (.slice ax 0 c) 0 [] w := by
      cases ax with
      | none => exact Src.ofNil w hu c
      | some a => exact Src.ofSlice w hu a 0 c [] (by simp) (fun j u hj => by simp at hj) (fun u hu => by cases hu)
    have hrun : (Builtin.append_ #[t, t] ty #[v, .slice ax 0 c]).run Γ.P w = .ok v w := by
      rcases ho.2 with ⟨rfl, rfl⟩ | ⟨g, cap, cur, rfl, _, _, hc, _⟩
      · exact run_append_nothing w t t ty e ie hu hie none 0 0 (Nat.le_refl _) _ hsrc
      · exact run_append_nothing w t t ty e ie hu hie (some ⟨g, 0, none⟩) n cap hc _ hsrc
    simp only [execOp, resolve, List.map_toArray, List.map_cons, List.map_nil, hs, hx, pure_bind, invoke, builtin, Sem.run_bind, hrun, Result.andThen_ok]
    rfl) hd next

theorem repZ (zs : List Value) : ∀ n, ((Array.range (n * zs.length)).map (zs.toArray[· % zs.toArray.size]!)).toList = (List.replicate n zs).flatten := by
  intro n
  induction n with
  | zero => simp
  | succ n ih =>
    rw [List.replicate_succ', List.flatten_append, ← ih]
    simp only [Array.toList_map, Array.toList_range, List.flatten_cons, List.flatten_nil, List.append_nil]
    rw [Nat.succ_mul, List.range_add, List.map_append]
    congr 1
    apply List.ext_getElem?
    intro j
    simp only [List.map_map, List.getElem?_map, List.getElem?_range]
    by_cases hj : j < zs.length
    · rw [List.getElem?_range hj]
      simp only [Option.map_some, Function.comp]
      have hm : (n * zs.length + j) % zs.toArray.size = j := by
        rw [List.size_toArray, Nat.mul_comm, Nat.mul_add_mod, Nat.mod_eq_of_lt hj]
      rw [hm]
      simp [hj]
    · rw [List.getElem?_eq_none (by simpa using hj), List.getElem?_eq_none (by omega)]; rfl
theorem rep_run (zs : List Value) (n : Nat) (h : n * zs.length = 0 ∨ True) : ((Array.range (n * zs.length)).map (zs.toArray[· % zs.toArray.size]!)) = ((List.replicate n zs).flatten).toArray := by
  rw [← repZ]
/-- A slice's literal. -/
theorem WL.buildSlice {d t e sz len : Nat} {qs : List (Nat × Operand)} {zs cs : List Value} [hk : SlK Γ.P t e sz] [hz : ZeroK Γ.P e zs] (hzs : zs.length = sz)
    (h : fillL (fun i => some (i * sz, sz)) (List.replicate len zs).flatten (pcs ρ qs) = some cs) (h24 : Nat.ble (len * sz) 16777216 = true) (hd : Nat.blt d Γ.n = true)
    (next : ∀ g, WL Γ ops rest (upd ρ d (.slice (some ⟨g, 0, none⟩) len len)) I (L ++ [Sl.box g e cs]) Q) :
    WL Γ ops ({ dst := some d, op := .buildSlice t len qs.toArray, type := ty, pos := ps, after := af, guard := none } :: rest) ρ I L Q :=
  WL.effX (fun w hw => by
    obtain ⟨hu, ie, hie, hn⟩ := SlK.und hk.is
    have hs : (sizeOf e).run Γ.P w = .ok sz w := by rw [run_sizeOf w hie]; simp [Program.cellsOf, hie, hn]
    obtain ⟨z, hz1, hz2⟩ := ZeroK.run hz.is w
    refine ⟨.slice (some ⟨w.heap.size, 0, none⟩) len len, _, I, _, ?_, hw.alloc (.cells cs.toArray e (0, 0)), next _⟩
    have h24' : ¬ (len * sz > 2 ^ 24) := by have := Nat.le_of_ble_eq_true h24; omega
    have hf := fill_of_fillL (fun i => some (i * sz, sz)) (qs.map fun p => (p.1, ev ρ p.2)) _ cs (by simpa [pcs, Function.comp_def] using h)
    by_cases h0 : len * sz = 0
    · have hc : ((Array.range (len * sz)).map (fun x => (#[] : Array Value)[x % (#[] : Array Value).size]!)) = ((List.replicate len zs).flatten).toArray := by
        rw [← rep_run zs len (.inr trivial), hzs, h0]; simp
      simp only [execOp, Instr.buildSlice, List.map_toArray, Sem.run_bind, run_underlying hu, Result.andThen_ok, hs, h24', if_false, pure_bind, h0, if_true]
      rw [h0] at hc
      simp only [hc, hf]
      rfl
    · have hc : ((Array.range (len * sz)).map (fun x => zs.toArray[x % zs.toArray.size]!)) = ((List.replicate len zs).flatten).toArray := by
        rw [← rep_run zs len (.inr trivial), hzs]
      simp only [execOp, Instr.buildSlice, List.map_toArray, Sem.run_bind, run_underlying hu, Result.andThen_ok, hs, h24', if_false, pure_bind, h0, hz1, hz2, hc, hf]
      rfl) hd

/-! ### Calls -/
def picks {α : Type} : List Nat → List α → Option (List α × List α)
  | [], L => some ([], L)
  | k :: ks, L => match L[k]? with
    | none => none
    | some p => match picks ks (L.eraseIdx k) with
      | none => none
      | some (xs, r) => some (p :: xs, r)
theorem picks_perm {α : Type} : ∀ (ks : List Nat) (L xs r : List α), picks ks L = some (xs, r) → L.Perm (xs ++ r)
  | [], L, xs, r, h => by simp [picks] at h; obtain ⟨rfl, rfl⟩ := h; exact List.Perm.refl _
  | k :: ks, L, xs, r, h => by
    simp only [picks] at h
    cases hk : L[k]? with
    | none => rw [hk] at h; cases h
    | some p =>
      rw [hk] at h
      simp only at h
      cases hq : picks ks (L.eraseIdx k) with
      | none => rw [hq] at h; cases h
      | some xr =>
        obtain ⟨xs', r'⟩ := xr
        rw [hq] at h
        simp at h
        obtain ⟨rfl, rfl⟩ := h
        exact (pull k L p hk).trans ((picks_perm ks _ _ _ hq).cons p)

theorem Sat.sub {E : Ev} {w : World} {I : Mem} {L L0 Lr : List HP} (ks : List Nat) (hp : picks ks L = some (L0, Lr)) (h : Sat E w I L) : Sat E w I L0 :=
  (h.perm (picks_perm ks _ _ _ hp)).imp fun m hm => by
    obtain ⟨m1, m2, h1, h2, h3, h4, h5⟩ := sts_append hm
    exact sts_mono h4 h1
theorem Sat.less {E : Ev} {w : World} {I I0 : Mem} {L : List HP} (hI : I0.le I) (h : Sat E w I L) : Sat E w I0 L :=
  ⟨h.tape, h.os, h.output, fun b o hb => h.imm b o (hI b o hb), let ⟨m, a, b, c⟩ := h.own; ⟨m, a, b.le hI (Mem.le.refl _), c⟩⟩
def FnPost (E : Ev) (F : HP) (I : Mem) (R : Value → Mem → List HP → Prop) : Ending → World → Prop := fun e w' => ∃ v I' L', e = .returned v ∧ I.le I' ∧ Sat E w' I' (F :: L') ∧ R v I' L'
/-- A function's contract: what it owns when it is called, and what it hands back. -/
def Ctr (P : Program) (f : FuncId) (args : List Value) (I : Mem) (L : List HP) (R : Value → Mem → List HP → Prop) : Prop :=
  ∀ (E : Ev) (w : World) (F : HP), Sat E w I (F :: L) → Calls P f args.toArray w (FnPost E F I R)
theorem Ctr.mono {P : Program} {f : FuncId} {args : List Value} {I : Mem} {L : List HP} {R R' : Value → Mem → List HP → Prop} (h : Ctr P f args I L R) (hr : ∀ v I' L', I.le I' → R v I' L' → R' v I' L') : Ctr P f args I L R' :=
  fun E w F hw => (h E w F hw).mono fun e w' ⟨v, I', L', a, b, c, d⟩ => ⟨v, I', L', a, b, c, hr _ _ _ b d⟩
/-- It makes nothing that is handed back. -/
abbrev Still (I : Mem) (S : Value → Prop) : Value → Mem → List HP → Prop := fun v I' L' => I' = I ∧ L' = [] ∧ S v

theorem Ctr.intro {P : Program} {f : FuncId} {args : List Value} {I : Mem} {L : List HP} {R : Value → Mem → List HP → Prop} {fn : Func} {c : Code} {n : Nat} (hf : P.funcs[f]? = some fn) (hb : fn.body = some c) (hn : fn.ntmps = n)
    (ha : Nat.ble args.length n = true) (h : ∀ E F, WC ⟨P, E, n⟩ c (argρ args) I (F :: L) (bodyPost P fn (FnPost E F I R))) : Ctr P f args I L R := fun E w F hw =>
  calls_of_wp hf hb (h E F _ w (by rw [hn]; exact Loc.start (Nat.le_of_ble_eq_true ha)) hw)

class FnK (P : Program) (f : FuncId) : Prop where
  is : ∃ fn c, P.funcs[f]? = some fn ∧ (fn.name == "runtime.NumGoroutine") = false ∧ fn.body = some c
theorem run_enter {P : Program} {f : FuncId} (h : FnK P f) (args : Array Value) (w : World) : (callFunc f args).run P w = .ok (.enter f args) w := by
  obtain ⟨fn, c, hf, hname, hb⟩ := h.is
  have h1 : fn.name ≠ "runtime.NumGoroutine" := by simpa using hname
  simp [callFunc, hf, h1, hb]
theorem run_call {P : Program} {ρ : Nat → Value} {f : FuncId} (h : FnK P f) {x : Operand} {args : List Operand} {ats : Array TypeId} {fs cp vs : List Value} {d : Option Nat} {ty : TypeId} {ps : String} {af : Array Edge} {g : Option (Nat × Bool)}
    (hx : ev ρ x = .func (.func f) fs.toArray cp.toArray) (hv : fs ++ args.map (ev ρ) ++ cp = vs) (w : World) :
    (execOp (ev ρ) { dst := d, op := .call { callee := .value x, args := args.toArray, argTypes := ats }, type := ty, pos := ps, after := af, guard := g }).run P w = .ok (.enter f vs.toArray) w := by
  subst hv
  simp only [execOp, resolve, hx, Deferred.ofValue, pure_bind, invoke, List.map_toArray, List.append_toArray, run_enter h]

/-- What stands behind a call. -/
theorem WL.callW {d : Option Nat} {f : FuncId} {x : Operand} {args : List Operand} {ats : Array TypeId} {fs cp vs : List Value} {Lc Lr : List HP} {R : Value → Mem → List HP → Prop} (ks : List Nat) [hf : FnK Γ.P f]
    (hx : ev ρ x = .func (.func f) fs.toArray cp.toArray) (hv : fs ++ args.map (ev ρ) ++ cp = vs) (hp : picks ks L = some (Lc, Lr)) (hc : Ctr Γ.P f vs I Lc R)
    (next : ∀ v I' L', I.le I' → R v I' L' → ∀ a w, Loc Γ.n ρ a → Sat Γ.E w I' (Lr ++ L') → wpList Γ.P ops Q rest (a.put d v) w) :
    WL Γ ops ({ dst := d, op := .call { callee := .value x, args := args.toArray, argTypes := ats }, type := ty, pos := ps, after := af, guard := none } :: rest) ρ I L Q := by
  intro a w ha hw
  simp only [wpList, Region.wanted, if_true]
  refine .inl ?_
  unfold Oper.wp
  rw [ha.ev, run_call hf hx hv w]
  have hw1 : Sat Γ.E w I (sts Lr :: Lc) := ((hw.perm (picks_perm ks _ _ _ hp)).perm List.perm_append_comm).imp fun m hm => sts_fold hm
  refine (hc Γ.E w _ hw1).mono fun e w' ⟨v, I', L', he, hI, hw', hR⟩ => ?_
  subst he
  exact next v I' L' hI hR a w' ha (hw'.imp fun m hm => sts_unfold hm)
theorem WL.call {d : Nat} {f : FuncId} {x : Operand} {args : List Operand} {ats : Array TypeId} {fs cp vs : List Value} {Lc Lr : List HP} {R : Value → Mem → List HP → Prop} (ks : List Nat) [hf : FnK Γ.P f]
    (hx : ev ρ x = .func (.func f) fs.toArray cp.toArray) (hv : fs ++ args.map (ev ρ) ++ cp = vs) (hp : picks ks L = some (Lc, Lr)) (hc : Ctr Γ.P f vs I Lc R) (hd : Nat.blt d Γ.n = true)
    (next : ∀ v I' L', I.le I' → R v I' L' → WL Γ ops rest (upd ρ d v) I' (Lr ++ L') Q) :
    WL Γ ops ({ dst := some d, op := .call { callee := .value x, args := args.toArray, argTypes := ats }, type := ty, pos := ps, after := af, guard := none } :: rest) ρ I L Q :=
  WL.callW ks hx hv hp hc fun v I' L' hI hR a w ha hw => next v I' L' hI hR _ w (ha.put hd v) hw
theorem WL.callN {f : FuncId} {x : Operand} {args : List Operand} {ats : Array TypeId} {fs cp vs : List Value} {Lc Lr : List HP} {R : Value → Mem → List HP → Prop} (ks : List Nat) [hf : FnK Γ.P f]
    (hx : ev ρ x = .func (.func f) fs.toArray cp.toArray) (hv : fs ++ args.map (ev ρ) ++ cp = vs) (hp : picks ks L = some (Lc, Lr)) (hc : Ctr Γ.P f vs I Lc R)
    (next : ∀ v I' L', I.le I' → R v I' L' → WL Γ ops rest ρ I' (Lr ++ L') Q) :
    WL Γ ops ({ dst := none, op := .call { callee := .value x, args := args.toArray, argTypes := ats }, type := ty, pos := ps, after := af, guard := none } :: rest) ρ I L Q :=
  WL.callW ks hx hv hp hc fun v I' L' hI hR a w ha hw => next v I' L' hI hR _ w (ha.putNone v) hw
/-- A call that leaves all as it was. -/
theorem WL.callS {d : Nat} {f : FuncId} {x : Operand} {args : List Operand} {ats : Array TypeId} {fs cp vs : List Value} {S : Value → Prop} [hf : FnK Γ.P f]
    (hx : ev ρ x = .func (.func f) fs.toArray cp.toArray) (hv : fs ++ args.map (ev ρ) ++ cp = vs) (hc : Ctr Γ.P f vs I [] (Still I S)) (hd : Nat.blt d Γ.n = true)
    (next : ∀ v, S v → WL Γ ops rest (upd ρ d v) I L Q) :
    WL Γ ops ({ dst := some d, op := .call { callee := .value x, args := args.toArray, argTypes := ats }, type := ty, pos := ps, after := af, guard := none } :: rest) ρ I L Q :=
  WL.callW [] hx hv rfl hc fun v I' L' hI ⟨h1, h2, hS⟩ a w ha hw => by
    subst h1; subst h2
    exact next v hS _ w (ha.put hd v) (by simpa using hw)
/-- A call that turns one of the things that are owned (place k). -/
theorem WL.call1 {d : Nat} {f : FuncId} {x : Operand} {args : List Operand} {ats : Array TypeId} {fs cp vs : List Value} {p : HP} {R : Value → Mem → List HP → Prop} (k : Nat) [hf : FnK Γ.P f]
    (hx : ev ρ x = .func (.func f) fs.toArray cp.toArray) (hv : fs ++ args.map (ev ρ) ++ cp = vs) (hp : L[k]? = some p) (hc : Ctr Γ.P f vs I [p] R) (hd : Nat.blt d Γ.n = true)
    (next : ∀ v I' L', I.le I' → R v I' L' → ∃ p', L' = [p'] ∧ WL Γ ops rest (upd ρ d v) I' (L.set k p') Q) :
    WL Γ ops ({ dst := some d, op := .call { callee := .value x, args := args.toArray, argTypes := ats }, type := ty, pos := ps, after := af, guard := none } :: rest) ρ I L Q :=
  WL.callW (Lr := L.eraseIdx k) [k] hx hv (by simp [picks, hp]) hc fun v I' L' hI hR a w ha hw => by
    obtain ⟨p', rfl, h⟩ := next v I' L' hI hR
    exact h _ w (ha.put hd v) ((hw.perm List.perm_append_comm).perm (push_back k L _ _ hp))
theorem WL.call1N {f : FuncId} {x : Operand} {args : List Operand} {ats : Array TypeId} {fs cp vs : List Value} {p : HP} {R : Value → Mem → List HP → Prop} (k : Nat) [hf : FnK Γ.P f]
    (hx : ev ρ x = .func (.func f) fs.toArray cp.toArray) (hv : fs ++ args.map (ev ρ) ++ cp = vs) (hp : L[k]? = some p) (hc : Ctr Γ.P f vs I [p] R)
    (next : ∀ v I' L', I.le I' → R v I' L' → ∃ p', L' = [p'] ∧ WL Γ ops rest ρ I' (L.set k p') Q) :
    WL Γ ops ({ dst := none, op := .call { callee := .value x, args := args.toArray, argTypes := ats }, type := ty, pos := ps, after := af, guard := none } :: rest) ρ I L Q :=
  WL.callW (Lr := L.eraseIdx k) [k] hx hv (by simp [picks, hp]) hc fun v I' L' hI hR a w ha hw => by
    obtain ⟨p', rfl, h⟩ := next v I' L' hI hR
    exact h _ w (ha.putNone v) ((hw.perm List.perm_append_comm).perm (push_back k L _ _ hp))
/-- A function that the model stands in for. -/
theorem Val.ext {f : FuncId} {fn : Func} {e : Array Value → Sem Value} {x : Operand} {args : List Operand} {ats : Array TypeId} {vs : List Value} {v : Value} (hf : Γ.P.funcs[f]? = some fn) (hname : (fn.name == "runtime.NumGoroutine") = false)
    (hb : fn.body.isNone = true) (hn : Extern.findNext fn = none) (he : Extern.find fn = some e) (hx : ev ρ x = .func (.func f) #[] #[]) (hv : args.map (ev ρ) = vs) (hr : ∀ w, (e vs.toArray).run Γ.P w = .ok v w) :
    Val Γ ρ I L (.call { callee := .value x, args := args.toArray, argTypes := ats }) ty v := fun w _ => by
  subst hv
  simp only [execOp, resolve, hx, Deferred.ofValue, pure_bind, invoke, List.map_toArray, List.append_toArray, List.nil_append, List.append_nil, run_callFunc_standIn hf hname hb hn he, hr, Result.andThen]
end

/-! ### Ends -/
section
variable {Γ : Cx} {ρ : Nat → Value} {I : Mem} {L : List HP} {Q : Post}
def resF (tmps : Array Value) : ResultVar → Sem Value
  | .tmp t => pure (tmps.getD t undef)
  | .cell x t => do loadVar t (← asAddr (tmps.getD x undef))
theorem results_resF (fn : Func) (tmps : Array Value) : results fn tmps = (do let vs ← fn.results.mapM (resF tmps); pure (if h : vs.size = 1 then vs[0] else .tuple vs)) := rfl
def ResIs (Γ : Cx) (ρ : Nat → Value) (I : Mem) (L : List HP) (r : ResultVar) (v : Value) : Prop :=
  ∀ a w, Loc Γ.n ρ a → Sat Γ.E w I L → (resF a.tmps r).run Γ.P w = .ok v w
theorem ResIs.tmp {t : Nat} {v : Value} (h : ρ t = v) : ResIs Γ ρ I L (.tmp t) v := fun a w ha hw => by simp only [resF, ha.get, h]; rfl
theorem ResIs.cellA {x t n b off : Nat} {cs : List Value} [hk : TyK Γ.P t true n] (h : ρ x = .pointer (some ⟨b, off, none⟩)) (hr : Rd I L b off cs) (hn : cs.length = n) : ResIs Γ ρ I L (.cell x t) (.agg cs.toArray) := fun a w ha hw => by
  have h2 := run_loadCells_list (P := Γ.P) w ⟨b, off, none⟩ cs (fun j v hj => by rw [addr_add]; exact hr Γ.E w hw j v hj)
  rw [hn] at h2
  simp only [resF, ha.get, h, asAddr, pure_bind, loadVar, Sem.run_bind, TyK.agg hk.is, TyK.size hk.is, Result.andThen_ok, if_true, h2]
  all_goals rfl
theorem ResIs.cellO {x t n b off bt : Nat} {cs : List Value} (k : Nat) [hk : TyK Γ.P t true n] (h : ρ x = .pointer (some ⟨b, off, none⟩)) (hL : L[k]? = some (box b bt cs)) (hc : Nat.ble (off + n) cs.length = true) :
    ResIs Γ ρ I L (.cell x t) (.agg ((cs.drop off).take n).toArray) := ResIs.cellA h (Rd.ownN n k hL rfl) (by have := Nat.le_of_ble_eq_true hc; simp; omega)
theorem ResIs.cellS {x t b off : Nat} {v : Value} [hk : TyK Γ.P t false 1] (h : ρ x = .pointer (some ⟨b, off, none⟩)) (hr : Rd I L b off [v]) : ResIs Γ ρ I L (.cell x t) v := fun a w ha hw => by
  have h2 := hr Γ.E w hw 0 v rfl
  simp only [resF, ha.get, h, asAddr, pure_bind, loadVar, Sem.run_bind, TyK.agg hk.is, Result.andThen_ok, Bool.false_eq_true, if_false]
  simp only [load, Sem.run, Nat.add_zero] at h2 ⊢
  simp only [h2]
def RunRes (Γ : Cx) (fn : Func) (ρ : Nat → Value) (I : Mem) (L : List HP) (v : Value) : Prop := ∀ a w, Loc Γ.n ρ a → Sat Γ.E w I L → (results fn a.tmps).run Γ.P w = .ok v w
theorem RunRes.r0 {fn : Func} (hr : fn.results = #[]) : RunRes Γ fn ρ I L (.tuple #[]) := fun a w ha hw => by
  rw [results_resF]; simp [hr]
theorem RunRes.r1 {fn : Func} {r1 : ResultVar} {v1 : Value} (hr : fn.results = #[r1]) (h1 : ResIs Γ ρ I L r1 v1) : RunRes Γ fn ρ I L v1 := fun a w ha hw => by
  rw [results_resF]; simp [hr, Sem.run_bind, h1 a w ha hw]
theorem RunRes.r2 {fn : Func} {r1 r2 : ResultVar} {v1 v2 : Value} (hr : fn.results = #[r1, r2]) (h1 : ResIs Γ ρ I L r1 v1) (h2 : ResIs Γ ρ I L r2 v2) : RunRes Γ fn ρ I L (.tuple #[v1, v2]) := fun a w ha hw => by
  rw [results_resF]; simp [hr, Sem.run_bind, h1 a w ha hw, h2 a w ha hw]
theorem RunRes.r3 {fn : Func} {r1 r2 r3 : ResultVar} {v1 v2 v3 : Value} (hr : fn.results = #[r1, r2, r3]) (h1 : ResIs Γ ρ I L r1 v1) (h2 : ResIs Γ ρ I L r2 v2) (h3 : ResIs Γ ρ I L r3 v3) : RunRes Γ fn ρ I L (.tuple #[v1, v2, v3]) := fun a w ha hw => by
  rw [results_resF]; simp [hr, Sem.run_bind, h1 a w ha hw, h2 a w ha hw, h3 a w ha hw]
theorem RunRes.r4 {fn : Func} {r1 r2 r3 r4 : ResultVar} {v1 v2 v3 v4 : Value} (hr : fn.results = #[r1, r2, r3, r4]) (h1 : ResIs Γ ρ I L r1 v1) (h2 : ResIs Γ ρ I L r2 v2) (h3 : ResIs Γ ρ I L r3 v3) (h4 : ResIs Γ ρ I L r4 v4) : RunRes Γ fn ρ I L (.tuple #[v1, v2, v3, v4]) := fun a w ha hw => by
  rw [results_resF]; simp [hr, Sem.run_bind, h1 a w ha hw, h2 a w ha hw, h3 a w ha hw, h4 a w ha hw]
/-- The end of a function's body: the frame stands at place 0. -/
theorem WX.doneR {fn : Func} {F : HP} {I0 : Mem} {L' Lr : List HP} {v : Value} {R : Value → Mem → List HP → Prop} (hres : RunRes Γ fn ρ I L v) (ks : List Nat) (hp : picks (0 :: ks) L = some (F :: L', Lr)) (hI : I0.le I) (hR : R v I L') :
    WX Γ .ret ρ I L (bodyPost Γ.P fn (FnPost Γ.E F I0 R)) := fun a w ha hw =>
  ⟨ha.defers, v, hres a w ha hw, v, I, L', rfl, hI, (hw.perm (picks_perm _ _ _ _ hp)).imp fun m hm => by
    obtain ⟨m1, m2, h1, h2, h3, h4, h5⟩ := sts_append hm
    exact sts_mono h4 h1, hR⟩
theorem WX.doneN {fn : Func} {F : HP} {I0 : Mem} {L' Lr : List HP} {v : Value} {R : Value → Mem → List HP → Prop} (hres : RunRes Γ fn ρ I L v) (ks : List Nat) (hp : picks (0 :: ks) L = some (F :: L', Lr)) (hI : I0.le I) (hR : R v I L') :
    WX Γ .normal ρ I L (bodyPost Γ.P fn (FnPost Γ.E F I0 R)) := WX.doneR hres ks hp hI hR
end

/-! ### Regions that draw their order -/
class PF (Q : Post) : Prop where
  no : ∀ c a w, ¬ Q (.panic c) a w
instance {P : Program} {fn : Func} {E : Ev} {F : HP} {I : Mem} {R : Value → Mem → List HP → Prop} : PF (bodyPost P fn (FnPost E F I R)) := ⟨fun c a w h => by
  obtain ⟨_, v, I', L', he, _⟩ := h; cases he⟩
instance {K : Act → World → Prop} {Q : Post} [h : PF Q] : PF (Exit.then K Q) := ⟨fun c a w => h.no c a w⟩
instance {id : Nat} {Q : Post} [h : PF Q] : PF (Exit.inBlock id Q) := ⟨fun c a w => h.no c a w⟩

/-- Whatever order is picked; what is held (S) holds behind each operation but z, which waits for all that are taken first. -/
def anyT (P : Program) (ops : Array Oper) (Q : Post) (z : Nat) (S : World → Prop) : Nat → Array Bool → Act → World → Prop
  | 0, l, a, w => Region.ready .any ops l = [] ∧ Q .normal a w
  | n + 1, l, a, w => (Region.ready .any ops l = [] → Q .normal a w) ∧
    ∀ i ∈ Region.ready .any ops l, wpOp P ops Q i (fun a' w' => (i = z ∨ S w') ∧ anyT P ops Q z S n (l.setIfInBounds i true) a' w') a w
def waitsFor (ops : Array Oper) (z i : Nat) : Bool := match ops[z]? with
  | none => true
  | some o => z != i && o.after.any fun e => Region.binds .any e && e.on == i
theorem anyT_any {P : Program} {ops : Array Oper} {Q : Post} {z : Nat} {S : World → Prop} : ∀ (n : Nat) (l : Array Bool) (a : Act) (w : World), anyT P ops Q z S n l a w → wpAny P .any ops Q n l a w
  | 0, _, _, _, h => h
  | n + 1, _, _, _, h => ⟨h.1, fun i hi => wpOp_mono (fun _ _ k => anyT_any n _ _ _ k.2) (h.2 i hi)⟩
theorem anyT_first {P : Program} {ops : Array Oper} {Q : Post} {z : Nat} {S : World → Prop} {i : Nat} {oi : Oper} {v : Value} (hi : ops[i]? = some oi) (hsel : Region.noSelect ops = true) (hz : waitsFor ops z i = true) (hQ : ∀ c a w, ¬ Q (.panic c) a w) :
    ∀ (n : Nat) (l : Array Bool) (a : Act) (w : World), (∀ j oj, ops[j]? = some oj → j ≠ i → l.getD j true = false → (∀ e ∈ oj.after, Region.binds .any e = true → e.on ≠ i) → oi.apart ops oj = true) →
      i ∈ Region.ready .any ops l → YieldsIf P ops S oi v a → S w → anyT P ops Q z S n (l.setIfInBounds i true) (a.put oi.dst v) w → anyT P ops Q z S (n + 1) l a w := by
  have hsel' := Region.noSelect_spec hsel
  intro n
  induction n with
  | zero =>
    intro l a w _ hr hy hS H
    refine ⟨fun h => (by rw [h] at hr; cases hr), fun j hj => ?_⟩
    by_cases e : j = i
    · rw [e]; exact hy.wpOp hi hS ⟨.inr hS, H⟩
    · exact absurd (ready_mono hj e) (by rw [H.1]; simp)
  | succ n ih =>
    intro l a w hfree hr hy hS H
    refine ⟨fun h => (by rw [h] at hr; cases hr), fun j hj => ?_⟩
    by_cases e : j = i
    · rw [e]; exact hy.wpOp hi hS ⟨.inr hS, H⟩
    · obtain ⟨hun, oj, hoj, hall⟩ := mem_ready.1 hj
      have hi0 := (mem_ready.1 hr).1
      have hno : ∀ x ∈ oj.after, Region.binds .any x = true → x.on ≠ i := fun x hx hb he => by
        have h1 := hall x hx hb
        rw [he] at h1
        rw [Array.getD_eq_getD_getElem?] at h1 hi0
        cases hq : l[i]? <;> rw [hq] at h1 hi0 <;> simp at h1 hi0
        rw [h1] at hi0; cases hi0
      have hjz : j ≠ z := fun hjz => by
        subst hjz
        unfold waitsFor at hz
        rw [hoj] at hz
        simp only [Bool.and_eq_true, Array.any_eq_true', beq_iff_eq] at hz
        obtain ⟨x, hx, hb, hxi⟩ := hz.2
        exact hno x hx hb hxi
      have step := wpOp_putIf hoj (hfree j oj hoj e hun hno) (fun cs b => hsel' i oi cs b hi) (fun cs b => hsel' j oj cs b hoj) (fun c a w h => absurd h (hQ c _ w)) hy (H.2 j (ready_mono hj e))
      refine wpOp_mono (fun a' w' ⟨hy', hS', hn⟩ => ?_) step
      have hS2 := hS'.resolve_left hjz
      refine ⟨.inr hS2, ih _ a' w' (fun k ok hk hki hun2 hno2 => hfree k ok hk hki ?_ hno2) (ready_mono hr (Ne.symm e)) hy' hS2 ?_⟩
      · by_cases hjk : j = k
        · subst hjk; exact hun
        · rwa [getD_set_ne true hjk] at hun2
      · rw [Array.setIfInBounds_comm _ _ (Ne.symm e)] at hn; exact hn

def WA (Γ : Cx) (ops : Array Oper) (Q : Post) (z : Nat) (I0 : Mem) (L0 : List HP) (fuel : Nat) (listed : Array Bool) (ρ : Nat → Value) (I : Mem) (L : List HP) : Prop :=
  ∀ a w, Loc Γ.n ρ a → Sat Γ.E w I L → anyT Γ.P ops Q z (fun w => Sat Γ.E w I0 L0) fuel listed a w
section
variable {Γ : Cx} {ops : Array Oper} {Q : Post} {z : Nat} {I I0 : Mem} {L L0 : List HP} {ρ : Nat → Value} {fuel : Nat} {listed : Array Bool}
theorem WC.draw {id : Nat} (z : Nat) (I0 : Mem) (L0 : List HP) (hm : Γ.P.follows .mixedOrders = true) {n : Nat} {l : Array Bool} (hn : ops.size = n) (hl : Array.replicate n false = l) (h : WA Γ ops Q z I0 L0 n l ρ I L) : WC Γ (.region id ops true) ρ I L Q :=
  fun a w ha hw => wp_region_any hm (anyT_any _ _ _ _ (by rw [hn, hl]; exact h a _ ha hw.drew))
theorem WC.drawK {id : Nat} (z : Nat) (I0 : Mem) (ks : List Nat) {Lr : List HP} (hp : picks ks L = some (L0, Lr)) (hm : Γ.P.follows .mixedOrders = true) {n : Nat} {l : Array Bool} (hn : ops.size = n) (hl : Array.replicate n false = l) (h : WA Γ ops Q z I0 L0 n l ρ I L) : WC Γ (.region id ops true) ρ I L Q := WC.draw z I0 L0 hm hn hl h
def canTake (ops : Array Oper) (listed : Array Bool) (z i : Nat) : Bool := Region.noSelect ops && Region.free .any ops listed i && (Region.ready .any ops listed).contains i && waitsFor ops z i
theorem WA.takeY [hq : PF Q] {o : Oper} {d : Nat} {v : Value} {l' : Array Bool} (i : Nat) (hi : ops[i]? = some o) (hd' : o.dst = some d)
    (hs : canTake ops listed z i = true) (hl : listed.setIfInBounds i true = l') (hS : ∀ w, Sat Γ.E w I L → Sat Γ.E w I0 L0)
    (hy : ∀ a, Loc Γ.n ρ a → YieldsIf Γ.P ops (fun w => Sat Γ.E w I0 L0) o v a) (hd : Nat.blt d Γ.n = true) (next : WA Γ ops Q z I0 L0 fuel l' (upd ρ d v) I L) : WA Γ ops Q z I0 L0 (fuel + 1) listed ρ I L := fun a w ha hw => by
  simp only [canTake, Bool.and_eq_true] at hs
  refine anyT_first hi hs.1.1.1 hs.2 hq.no fuel listed a w (Region.free_spec hi hs.1.1.2) (by simpa using hs.1.2) (hy a ha) (hS w hw) ?_
  rw [hl, hd']; exact next _ w (ha.put hd v) hw
/-- Operation i, which may come up now and yields its value in whatever world is held, is taken first. -/
theorem WA.take [hq : PF Q] {d : Nat} {op : Op} {ty : TypeId} {ps : String} {af : Array Edge} {v : Value} {l' : Array Bool} (i : Nat) (hi : ops[i]? = some { dst := some d, op := op, type := ty, pos := ps, after := af, guard := none })
    (hs : canTake ops listed z i = true) (hl : listed.setIfInBounds i true = l') (hS : ∀ w, Sat Γ.E w I L → Sat Γ.E w I0 L0)
    (hv : Val Γ ρ I0 L0 op ty v) (hd : Nat.blt d Γ.n = true) (next : WA Γ ops Q z I0 L0 fuel l' (upd ρ d v) I L) : WA Γ ops Q z I0 L0 (fuel + 1) listed ρ I L :=
  WA.takeY i hi rfl hs hl hS (fun a ha => .inl ⟨rfl, fun w' hw' => by rw [ha.ev]; exact hv w' hw'⟩) hd next
theorem WA.takeGT [hq : PF Q] {d j t : Nat} {b : Bool} {op : Op} {ty : TypeId} {ps : String} {af : Array Edge} {v : Value} {l' : Array Bool} (i : Nat) (hi : ops[i]? = some { dst := some d, op := op, type := ty, pos := ps, after := af, guard := some (j, b) })
    (hs : canTake ops listed z i = true) (hl : listed.setIfInBounds i true = l') (hS : ∀ w, Sat Γ.E w I L → Sat Γ.E w I0 L0)
    (hj : (ops[j]?).bind (·.dst) = some t) (hb : ρ t = .bool b)
    (hv : Val Γ ρ I0 L0 op ty v) (hd : Nat.blt d Γ.n = true) (next : WA Γ ops Q z I0 L0 fuel l' (upd ρ d v) I L) : WA Γ ops Q z I0 L0 (fuel + 1) listed ρ I L :=
  WA.takeY i hi rfl hs hl hS (fun a ha => .inl ⟨by simp [Region.wanted, ha.yield hj hb], fun w' hw' => by rw [ha.ev]; exact hv w' hw'⟩) hd next
theorem WA.takeGF [hq : PF Q] {d j t : Nat} {b c : Bool} {op : Op} {ty : TypeId} {ps : String} {af : Array Edge} {l' : Array Bool} (i : Nat) (hi : ops[i]? = some { dst := some d, op := op, type := ty, pos := ps, after := af, guard := some (j, b) })
    (hs : canTake ops listed z i = true) (hl : listed.setIfInBounds i true = l') (hS : ∀ w, Sat Γ.E w I L → Sat Γ.E w I0 L0)
    (hj : (ops[j]?).bind (·.dst) = some t) (hb : ρ t = .bool c) (hcb : (c == b) = false)
    (hd : Nat.blt d Γ.n = true) (next : WA Γ ops Q z I0 L0 fuel l' (upd ρ d undef) I L) : WA Γ ops Q z I0 L0 (fuel + 1) listed ρ I L :=
  WA.takeY i hi rfl hs hl hS (fun a ha => .inr ⟨by simp only [Region.wanted, ha.yield hj hb]; simpa using hcb, rfl⟩) hd next
theorem WA.takeGU [hq : PF Q] {d j t : Nat} {b : Bool} {op : Op} {ty : TypeId} {ps : String} {af : Array Edge} {l' : Array Bool} (i : Nat) (hi : ops[i]? = some { dst := some d, op := op, type := ty, pos := ps, after := af, guard := some (j, b) })
    (hs : canTake ops listed z i = true) (hl : listed.setIfInBounds i true = l') (hS : ∀ w, Sat Γ.E w I L → Sat Γ.E w I0 L0)
    (hj : (ops[j]?).bind (·.dst) = some t) (hb : ρ t = undef)
    (hd : Nat.blt d Γ.n = true) (next : WA Γ ops Q z I0 L0 fuel l' (upd ρ d undef) I L) : WA Γ ops Q z I0 L0 (fuel + 1) listed ρ I L :=
  WA.takeY i hi rfl hs hl hS (fun a ha => .inr ⟨by simp [Region.wanted, ha.yieldU hj hb], rfl⟩) hd next
/-- What comes behind operation i. -/
def WAK (Γ : Cx) (ops : Array Oper) (Q : Post) (z i : Nat) (I0 : Mem) (L0 : List HP) (fuel : Nat) (l' : Array Bool) : Act → World → Prop :=
  fun a w => (i = z ∨ Sat Γ.E w I0 L0) ∧ anyT Γ.P ops Q z (fun w => Sat Γ.E w I0 L0) fuel l' a w
theorem wpOp_of_list {P : Program} {i : Nat} {o : Oper} (hi : ops[i]? = some o) {K : Act → World → Prop} {a : Act} {w : World} (h : wpList P ops (Exit.then K Q) [o] a w) : wpOp P ops Q i K a w := by
  unfold wpOp
  rw [hi]
  simp only [wpList] at h ⊢
  split
  · rename_i hw
    rw [if_pos hw] at h
    refine h.imp (fun h => ?_) (fun ⟨h1, a, w, h2⟩ => ⟨h1, a, w, h2⟩)
    unfold Oper.wp at *
    generalize (execOp a.eval o).run P w = r at *
    cases r with
    | ok n w' => cases n <;> simp only [Oper.upon] at h ⊢ <;> first
        | exact h
        | exact Calls.mono h (fun e w'' he => by
            cases e with
            | returned v => exact he
            | panicked c => exact he
            | outgrown => obtain ⟨a, w, h⟩ := he; exact ⟨a, w, h⟩)
        | exact Rows.mono h (fun _ _ he => he)
    | halt x w' => cases x <;> simp only [Oper.upon] at h ⊢ <;> exact h
  · rename_i hw
    rw [if_neg hw] at h
    exact h
theorem anyT_all {P : Program} {S : World → Prop} {rs : List Nat} {a : Act} {w : World} (hr : Region.ready .any ops listed = rs) (hne : rs ≠ [])
    (h : ∀ i ∈ rs, wpOp P ops Q i (fun a' w' => (i = z ∨ S w') ∧ anyT P ops Q z S fuel (listed.setIfInBounds i true) a' w') a w) : anyT P ops Q z S (fuel + 1) listed a w :=
  ⟨fun h0 => absurd (hr ▸ h0) hne, hr ▸ h⟩
/-- Just operation i may come up now: it is carried out. -/
theorem WA.eff1 {i : Nat} {d : Option Nat} {op : Op} {ty : TypeId} {ps : String} {af : Array Edge} {g : Option (Nat × Bool)} {l' : Array Bool} (hr : Region.ready .any ops listed = [i]) (hi : ops[i]? = some { dst := d, op := op, type := ty, pos := ps, after := af, guard := g }) (hl : listed.setIfInBounds i true = l')
    (h : WL Γ ops [{ dst := d, op := op, type := ty, pos := ps, after := af, guard := g }] ρ I L (Exit.then (WAK Γ ops Q z i I0 L0 fuel l') Q)) : WA Γ ops Q z I0 L0 (fuel + 1) listed ρ I L := fun a w ha hw =>
  anyT_all hr (by simp) fun j hj => by
    simp at hj; subst hj
    rw [hl]
    exact wpOp_of_list hi (h a w ha hw)
theorem WA.eff2 {i j : Nat} {d d' : Option Nat} {op op' : Op} {ty ty' : TypeId} {ps ps' : String} {af af' : Array Edge} {g g' : Option (Nat × Bool)} {l1 l2 : Array Bool} (hr : Region.ready .any ops listed = [i, j]) (hi : ops[i]? = some { dst := d, op := op, type := ty, pos := ps, after := af, guard := g }) (hj : ops[j]? = some { dst := d', op := op', type := ty', pos := ps', after := af', guard := g' }) (hl1 : listed.setIfInBounds i true = l1) (hl2 : listed.setIfInBounds j true = l2)
    (h1 : WL Γ ops [{ dst := d, op := op, type := ty, pos := ps, after := af, guard := g }] ρ I L (Exit.then (WAK Γ ops Q z i I0 L0 fuel l1) Q)) (h2 : WL Γ ops [{ dst := d', op := op', type := ty', pos := ps', after := af', guard := g' }] ρ I L (Exit.then (WAK Γ ops Q z j I0 L0 fuel l2) Q)) : WA Γ ops Q z I0 L0 (fuel + 1) listed ρ I L := fun a w ha hw =>
  anyT_all hr (by simp) fun k hk => by
    simp at hk
    rcases hk with rfl | rfl
    · rw [hl1]; exact wpOp_of_list hi (h1 a w ha hw)
    · rw [hl2]; exact wpOp_of_list hj (h2 a w ha hw)
theorem WK.anyStep {i : Nat} {l' : Array Bool} (hS : ∀ w, Sat Γ.E w I L → Sat Γ.E w I0 L0) (h : WA Γ ops Q z I0 L0 fuel l' ρ I L) : WX Γ .normal ρ I L (Exit.then (WAK Γ ops Q z i I0 L0 fuel l') Q) := fun a w ha hw => ⟨.inr (hS w hw), h a w ha hw⟩
theorem WK.anyLast {l' : Array Bool} (h : WA Γ ops Q z I0 L0 fuel l' ρ I L) : WX Γ .normal ρ I L (Exit.then (WAK Γ ops Q z z I0 L0 fuel l') Q) := fun a w ha hw => ⟨.inl rfl, h a w ha hw⟩
theorem WA.done (hr : Region.ready .any ops listed = []) (h : WX Γ .normal ρ I L Q) : WA Γ ops Q z I0 L0 fuel listed ρ I L := fun a w ha hw => by
  cases fuel with
  | zero => exact ⟨hr, h a w ha hw⟩
  | succ n => exact ⟨fun _ => h a w ha hw, by rw [hr]; simp⟩
end
end Go.Sl
