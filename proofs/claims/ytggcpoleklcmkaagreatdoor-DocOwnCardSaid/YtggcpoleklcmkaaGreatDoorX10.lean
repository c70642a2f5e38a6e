/-
 Drawings, the plain law: entries that are one node's.
-/
import Derived.Test.YtggcpoleklcmkaaGreatDoorX8
import Derived.Test.YtggcpoleklcmkaaGreatDoorX2
import Derived.Test.YtggcpoleklcmkaaGreatDoorX9
import Derived.Test.YtggcpoleklcmkaaGreatDoorX3
set_option linter.unusedVariables false
set_option linter.unusedSimpArgs false
set_option maxRecDepth 100000
set_option maxHeartbeats 8000000
namespace Go.Dc
open Go.Sl Go.Ls Go.Tr
theorem tk_le : ∀ (f : Nat), (∀ (l : List Ent) n r, tk f l = some (n, r) → r.length < l.length) ∧ ∀ (k : Nat) (l : List Ent) ns r, tks f k l = some (ns, r) → r.length ≤ l.length := by
 intro f
 induction f with
 | zero =>
  refine ⟨fun l n r h => ?_, fun k l ns r h => ?_⟩
  ·rw [tk] at h; cases h
  ·cases k with
   | zero => rw [tks] at h; cases h; exact Nat.le_refl _
   | succ k => rw [tks] at h; cases h
 | succ f ih =>
  refine ⟨fun l n r h => ?_, fun k l ns r h => ?_⟩
  ·cases l with
   | nil => rw [tk] at h; cases h
   | cons x l =>
    rw [tk] at h
    split at h
    ·cases h
    ·split at h
     ·cases h
     ·rename_i ks rest he
      cases h
      have := ih.2 _ _ _ _ he
      simp only [List.length_cons]
      omega
  ·cases k with
   | zero => rw [tks] at h; cases h; exact Nat.le_refl _
   | succ k =>
    rw [tks] at h
    split at h
    ·cases h
    ·rename_i n r1 he
     split at h
     ·cases h
     ·rename_i ns' r2 he2
      cases h
      have h1 := ih.1 _ _ _ he
      have h2 := ih.2 _ _ _ _ he2
      omega
theorem tk_fuel : ∀ (f : Nat), (∀ (l : List Ent), 2 * l.length ≤ f → tk (f + 1) l = tk f l) ∧ ∀ (k : Nat) (l : List Ent), 2 * l.length + 1 ≤ f → tks (f + 1) k l = tks f k l := by
 intro f
 induction f with
 | zero =>
  refine ⟨fun l h => ?_, fun k l h => by omega⟩
  cases l with
  | nil => rw [tk, tk]
  | cons x l => simp at h
 | succ f ih =>
  refine ⟨fun l h => ?_, fun k l h => ?_⟩
  ·cases l with
   | nil => rw [tk, tk]
   | cons x l =>
    simp only [List.length_cons] at h
    rw [tk, tk, ih.2 _ _ (by omega)]
  ·cases k with
   | zero => rw [tks, tks]
   | succ k =>
    rw [tks, tks, ih.1 l (by omega)]
    cases he : tk f l with
    | none => rfl
    | some q =>
     obtain ⟨n, r⟩ := q
     have := (tk_le f).1 _ _ _ he
     simp only
     rw [ih.2 k r (by omega)]
theorem tks_more (k : Nat) (l : List Ent) (f : Nat) (h : 2 * l.length + 1 ≤ f) : tks f k l = tks (2 * l.length + 1) k l := by
 obtain ⟨g, rfl⟩ : ∃ g, f = 2 * l.length + 1 + g := ⟨f - (2 * l.length + 1), by omega⟩
 induction g with
 | zero => rfl
 | succ g ih => rw [← Nat.add_assoc, (tk_fuel _).2 k l (by omega), ih (by omega)]
def Tk (l : List Ent) : Option (Nd × List Ent) := tk (2 * l.length) l
def Tks (k : Nat) (l : List Ent) : Option (List Nd × List Ent) := tks (2 * l.length + 1) k l
theorem Tk_nil : Tk [] = none := by rw [Tk]; rfl
theorem Tk_cons (x : Ent) (r : List Ent) : Tk (x :: r) = if x.kids < 0 ∨ (r.length : Int) + 1 < x.kids then none else match Tks x.kids.toNat r with
  | none => none
  | some (ks, rest) => some (.mk x.id x.grp ks, rest) := by
 rw [Tk, show 2 * (x :: r).length = (2 * r.length + 1) + 1 by simp only [List.length_cons]; omega, tk]
 rfl
theorem Tks_zero (l : List Ent) : Tks 0 l = some ([], l) := by rw [Tks, tks]
theorem Tks_succ (k : Nat) (l : List Ent) : Tks (k + 1) l = match Tk l with
  | none => none
  | some (n, r) => match Tks k r with
   | none => none
   | some (ns, r') => some (n :: ns, r') := by
 rw [Tks, tks, Tk]
 cases he : tk (2 * l.length) l with
 | none => rfl
 | some q =>
  obtain ⟨n, r⟩ := q
  have := (tk_le _).1 _ _ _ he
  simp only
  rw [tks_more k r (2 * l.length) (by omega)]
  rfl
theorem Tk_le {l : List Ent} {n : Nd} {r : List Ent} (h : Tk l = some (n, r)) : r.length < l.length := (tk_le _).1 _ _ _ h
theorem Tks_le {k : Nat} {l : List Ent} {ns : List Nd} {r : List Ent} (h : Tks k l = some (ns, r)) : r.length ≤ l.length := (tk_le _).2 _ _ _ _ h
theorem Tks_add : ∀ (a b : Nat) (l : List Ent), Tks (a + b) l = match Tks a l with
  | none => none
  | some (ns, r) => match Tks b r with
   | none => none
   | some (ms, r') => some (ns ++ ms, r')
 | 0, b, l => by
  rw [Tks_zero, Nat.zero_add]
  simp only [List.nil_append]
  cases Tks b l with
  | none => rfl
  | some q => rfl
 | a + 1, b, l => by
  rw [show a + 1 + b = a + b + 1 by omega, Tks_succ, Tks_succ]
  cases Tk l with
  | none => rfl
  | some q =>
   obtain ⟨n, r⟩ := q
   simp only
   rw [Tks_add a b r]
   cases Tks a r with
   | none => rfl
   | some q =>
    obtain ⟨ns, r2⟩ := q
    simp only
    cases Tks b r2 with
    | none => rfl
    | some q => rfl
theorem spanGo_short (N : Int) : ∀ (l : List Ent) (o i : Int), (l.length : Int) < o → spanGo N o i l = -1
 | [], o, i, _ => rfl
 | x :: r, o, i, h => by
  simp only [List.length_cons] at h
  rw [spanGo]
  split
  ·rfl
  ·rename_i hk
   rw [if_neg (by omega), spanGo_short N r _ _ (by omega)]
theorem spanGo_eq (N : Int) : ∀ (l : List Ent) (k : Nat) (i : Int), (l.length : Int) ≤ N → spanGo N ((k : Int) + 1) i l = match Tks (k + 1) l with
  | none => -1
  | some (_, r) => i + ((l.length : Int) - r.length)
 | [], k, i, h => by rw [Tks_succ, Tk_nil]; rfl
 | x :: r, k, i, h => by
  simp only [List.length_cons] at h
  rw [Tks_succ, Tk_cons, spanGo]
  by_cases h1 : x.kids < 0 ∨ (r.length : Int) + 1 < x.kids
  ·rw [if_pos h1]
   simp only
   split
   ·rfl
   ·rename_i hk
    rw [if_neg (by omega), spanGo_short N r _ _ (by omega)]
  ·rw [if_neg h1, if_neg (by omega)]
   obtain ⟨m, hm⟩ : ∃ m : Nat, x.kids = m := ⟨x.kids.toNat, by omega⟩
   rw [hm, Int.toNat_natCast]
   have hadd := Tks_add m k r
   by_cases h0 : m + k = 0
   ·obtain ⟨rfl, rfl⟩ : m = 0 ∧ k = 0 := by omega
    rw [if_pos (by omega)]
    rw [Tks_zero]
    simp only
    rw [Tks_zero]
    show i + 1 = i + (((r.length + 1 : Nat) : Int) - (r.length : Int))
    omega
   ·rw [if_neg (by omega), show (k : Int) + 1 + (m : Int) - 1 = ((m + k - 1 : Nat) : Int) + 1 by omega, spanGo_eq N r (m + k - 1) (i + 1) (by omega), show m + k - 1 + 1 = m + k by omega, hadd]
    cases Tks m r with
    | none => rfl
    | some q =>
     obtain ⟨ns, r2⟩ := q
     simp only
     cases Tks k r2 with
     | none => rfl
     | some q =>
      simp only [List.length_cons]
      omega
theorem span_eq (l : List Ent) : span l = match Tk l with
  | none => -1
  | some (_, r) => (l.length : Int) - r.length := by
 have h := spanGo_eq l.length l 0 0 (Int.le_refl _)
 rw [span, show (1 : Int) = ((0 : Nat) : Int) + 1 by omega, h, Tks_succ]
 cases Tk l with
 | none => rfl
 | some q =>
  obtain ⟨n, r⟩ := q
  simp only
  rw [Tks_zero]
  show (0 : Int) + ((l.length : Int) - (r.length : Int)) = (l.length : Int) - (r.length : Int)
  omega
theorem Whole_iff (l : List Ent) : Whole l ↔ ∃ n, Tk l = some (n, []) := by
 rw [Whole, span_eq]
 constructor
 ·rintro ⟨h1, h2⟩
  cases h : Tk l with
  | none => rw [h] at h2; simp only at h2; omega
  | some q =>
   obtain ⟨n, r⟩ := q
   rw [h] at h2
   simp only at h2
   have : r.length = 0 := by omega
   exact ⟨n, by rw [List.eq_nil_of_length_eq_zero this]⟩
 ·rintro ⟨n, h⟩
  have := Tk_le h
  rw [h]
  exact ⟨by simpa using this, by simp⟩
end Go.Dc

namespace Go.Ls
open Go.Sl
theorem LsAt.drop2 {α : Type} {R : Rep α} {sz : Nat} [hL : RepLen R sz] {I : Mem} {l : List α} {b off n cap : Nat} (h : LsAt R I l (.slice (some ⟨b, off, none⟩) n cap)) (k : Nat) (hk : k ≤ l.length) : LsAt R I (l.drop k) (.slice (some ⟨b, if cap = k then off else off + k * sz, none⟩) (l.length - k) (cap - k)) := by
 by_cases hc : cap = k
 ·have h1 := h.cap
  rw [if_pos hc]
  have h2 : l.drop k = [] := List.drop_eq_nil_of_le (by omega)
  rw [h2]
  exact ⟨[], ⟨_, _, by rw [show l.length - k = 0 by omega]; rfl, ⟨by simp, by unfold maxLen; omega⟩, .inl ⟨rfl, rfl⟩⟩, trivial⟩
 ·rw [if_neg hc]
  exact h.drop k hk
end Go.Ls
namespace Go.Proofs.YtggcpoleklcmkaaGreatDoor
open Go.Sl Go.Ls Go.Tr Go.Dc
attribute [local irreducible] WC WL WX WK WA WAK Val Ctr RunRes ResIs Rd At sl box pt Exit.then Exit.inBlock bodyPost Code.wp wpList
theorem span_ctr (l : List Ent) (v : Value) (I : Mem) (hv : LsAt Ent.rep I l v) (hl : l.length ≤ 1000000) : Ctr Tryz.prog 83 [v] I [] (Still I fun r => r = vi (span l)) := by
 obtain ⟨a1, c1, rfl⟩ := hv.sl
 refine Ctr.intro Tryz.func83 rfl rfl rfl fun E F => ?_
 refine jS (jf rfl (jN (jf rfl (jM (jB (jS (jc rfl (jm (jo rfl) (ja rfl (jM (WC.block ?_)))))))))))
 refine WC.loop (fun n ρ' I' L' => ∃ (k : Nat) (o : Int), n = l.length - k ∧ k ≤ l.length ∧ I' = I ∧ ρ' 0 = .slice a1 l.length c1 ∧ ρ' 3 = vi o ∧ ρ' 6 = .slice a1 l.length c1 ∧ ρ' 7 = vi l.length ∧ ρ' 8 = vi k ∧ L' = [F] ∧ 1 ≤ o ∧ o ≤ 1 + ((k * l.length : Nat) : Int) ∧ span l = spanGo l.length o k (l.drop k))
  l.length ⟨0, 1, rfl, by omega, rfl, rfl, rfl, rfl, rfl, rfl, rfl, by omega, by omega, rfl⟩ ?_
 rintro n ρ' I0 L' ⟨k, o, rfl, hk, rfl, r0, r3, r6, r7, r8, rfl, o1, o2, hgo⟩
 refine ju5 r8 r7 r6 r3 r0 ?_
 have hmul : k * l.length ≤ 1000000 * 1000000 := Nat.mul_le_mul (by omega) hl
 have hmul2 : (k + 1) * l.length = k * l.length + l.length := Nat.succ_mul _ _
 rw [hgo]
 by_cases hkn : k < l.length
 case neg =>
  have : k = l.length := by omega
  subst this
  rw [List.drop_length]
  refine jS (jx rfl rfl (jM (jB (jE (WC.exit (WX.thenExit (WX.thenExit (WX.inHit (jK (jf rfl (jM (jR ?_))))))))))))
  exact jP [] (jr1 rfl (jtI rfl)) ⟨rfl, rfl, rfl⟩
 obtain ⟨b, off, cap', cs, he, ⟨t1, t2, t3, t4, rfl, hi⟩, hA⟩ := hv.get k hkn
 cases he
 obtain ⟨b1, d1, b2, d2, b3, d3, b4, d4, rfl, rfl, rfl, rfl⟩ := hi.sl
 rw [List.drop_eq_getElem_cons hkn, spanGo]
 rw [List.drop_eq_getElem_cons hkn, spanGo] at hgo
 have hik := hi.kids
 generalize l[k] = x at *
 by_cases h1 : x.kids < 0
 ·rw [if_pos (.inl h1)]
  refine jS (jy rfl rfl (jM (jB (jF (jV (jA (jB (WC.block (jS (ja rfl (jm (jZ rfl rfl) (jm (Val.loadI rfl (by assumption) rfl) ?_))))))))))))
  refine WL.alloc rfl (fun _ => ?_)
  refine jW ?_
  refine jf rfl (WL.stA 1 rfl rfl rfl rfl ?_)
  refine jM (jB (jS (jm (jn rfl) (jm (jp 1 rfl rfl rfl) (jy rfl rfl (jb rfl (jH (jH (jH (jH (jH (jk rfl (jM (jF (jS (jf rfl (jM (jR (jU (WX.inRet (jU (jU (WX.inRet (jU ?_))))))))))))))))))))))))
  exact jP [] (jr1 rfl (jtI rfl)) ⟨rfl, rfl, rfl⟩
 by_cases h2 : (l.length : Int) < x.kids
 ·rw [if_pos (.inr h2)]
  refine jS (jy rfl rfl (jM (jB (jF (jV (jA (jB (WC.block (jS (ja rfl (jm (jZ rfl rfl) (jm (Val.loadI rfl (by assumption) rfl) ?_))))))))))))
  refine WL.alloc rfl (fun _ => ?_)
  refine jW ?_
  refine jf rfl (WL.stA 1 rfl rfl rfl rfl ?_)
  refine jM (jB (jS (jm (jn rfl) (jm (jp 1 rfl rfl rfl) (jx rfl rfl (jb rfl (jG (jm (jn rfl) (jG (jm (jp 1 rfl rfl rfl) (jG (jc rfl (jG (jm (jo rfl) (jG (jO rfl rfl (jk rfl (jM (jF (jS (jf rfl (jM (jR (jU (WX.inRet (jU (jU (WX.inRet (jU ?_)))))))))))))))))))))))))))))
  exact jP [] (jr1 rfl (jtI rfl)) ⟨rfl, rfl, rfl⟩
 rw [if_neg (by omega)] at hgo ⊢
 by_cases h3 : o + x.kids - 1 = 0
 ·rw [if_pos h3]
  refine jS (jy rfl rfl (jM (jB (jF (jV (jA (jB (WC.block (jS (ja rfl (jm (jZ rfl rfl) (jm (Val.loadI rfl (by assumption) rfl) ?_))))))))))))
  refine WL.alloc rfl (fun _ => ?_)
  refine jW ?_
  refine jf rfl (WL.stA 1 rfl rfl rfl rfl ?_)
  refine jM (jB (jS (jm (jn rfl) (jm (jp 1 rfl rfl rfl) (jx rfl rfl (jb rfl (jG (jm (jn rfl) (jG (jm (jp 1 rfl rfl rfl) (jG (jc rfl (jG (jm (jo rfl) (jG (jL rfl rfl (jk rfl (jM (jE (jV (jK (ja rfl (jm (jn rfl) (jm (jp 1 rfl rfl rfl) (jm (Val.sub rfl rfl (wrap_i64 (by omega) (by omega))) ?_)))))))))))))))))))))))))
  refine jX rfl rfl (jf rfl (jN (ja rfl (jw rfl rfl (jM (jF (jS (ja rfl (jX rfl rfl (jf rfl (jM (jR (WX.inRet (jU (jU (WX.inRet (jU ?_)))))))))))))))))
  exact jP [] (jr1 rfl (jtI rfl)) ⟨rfl, rfl, rfl⟩
 ·rw [if_neg h3] at hgo ⊢
  refine jS (jy rfl rfl (jM (jB (jF (jV (jA (jB (WC.block (jS (ja rfl (jm (jZ rfl rfl) (jm (Val.loadI rfl (by assumption) rfl) ?_))))))))))))
  refine WL.alloc rfl (fun _ => ?_)
  refine jW ?_
  refine jf rfl (WL.stA 1 rfl rfl rfl rfl ?_)
  refine jM (jB (jS (jm (jn rfl) (jm (jp 1 rfl rfl rfl) (jx rfl rfl (jb rfl (jG (jm (jn rfl) (jG (jm (jp 1 rfl rfl rfl) (jG (jc rfl (jG (jm (jo rfl) (jG (jL rfl rfl (jk rfl (jM (jE (jV (jK (ja rfl (jm (jn rfl) (jm (jp 1 rfl rfl rfl) (jm (Val.sub rfl rfl (wrap_i64 (by omega) (by omega))) ?_)))))))))))))))))))))))))
  refine jX rfl rfl (jf rfl (jN (ja rfl (jv rfl rfl (jM (jE (jV (WX.inNormal (jA (jD (jX rfl rfl (ja rfl (jC (WX.conv (fun w h => h.sub [0] rfl) ?_))))))))))))))
  rw [← hgo]
  refine WX.thenK (WK.round (l.length - (k + 1)) (by omega) ⟨k + 1, o + (x.kids - 1), rfl, by omega, rfl, rfl, rfl, rfl, rfl, rfl, rfl, by omega, by omega, ?_⟩)
  rw [hgo, show o + (x.kids - 1) = o + x.kids - 1 by omega]
  rfl
theorem whole_ctr (l : List Ent) (v : Value) (I : Mem) (hv : LsAt Ent.rep I l v) (hl : l.length ≤ 1000000) : Ctr Tryz.prog 38 [v] I [] (Still I (EqP (Whole l))) := by
 have hv0 := hv
 obtain ⟨a1, c1, rfl⟩ := hv.sl
 refine Ctr.intro Tryz.func38 rfl rfl rfl fun E F => ?_
 by_cases h0 : 0 < l.length
 ·skip
  refine jS (jg rfl (jN (jc rfl (jm (jo rfl) (jO rfl rfl (jb rfl (jG (jc rfl (jG (WL.callS rfl rfl (span_ctr l _ _ hv0 hl) rfl ?_))))))))))
  rintro _ rfl
  by_cases h1 : span l = l.length
  ·skip
   refine jG (jc rfl (jG (jm (jo rfl) (jG (jw rfl rfl (jk rfl (jg rfl (jM (jR ?_)))))))))
   exact jP [] (jr1 rfl (jtB rfl)) ⟨rfl, rfl, EqP.t ⟨h0, h1⟩⟩
  ·skip
   refine jG (jc rfl (jG (jm (jo rfl) (jG (jv rfl rfl (jk rfl (jg rfl (jM (jR ?_)))))))))
   exact jP [] (jr1 rfl (jtB rfl)) ⟨rfl, rfl, EqP.f fun e => h1 e.2⟩
 ·skip
  refine jS (jg rfl (jN (jc rfl (jm (jo rfl) (jL rfl rfl (jb rfl (jH (jH (jH (jH (jH (jk rfl (jg rfl (jM (jR ?_)))))))))))))))
  exact jP [] (jr1 rfl (jtB rfl)) ⟨rfl, rfl, EqP.f fun e => h0 e.1⟩
theorem Tks_step {k m : Nat} {r0 rest r : List Ent} {ns ms : List Nd} (hk : k < m) (h1 : Tks k r0 = some (ns, rest)) (h2 : Tks (m - k) rest = some (ms, r)) : ∃ n1 r1 ms', Tk rest = some (n1, r1) ∧ Tks (m - (k + 1)) r1 = some (ms', r) ∧ ms = n1 :: ms' ∧ Tks (k + 1) r0 = some (ns ++ [n1], r1) := by
 rw [show m - k = (m - (k + 1)) + 1 by omega, Tks_succ] at h2
 cases ht : Tk rest with
 | none => rw [ht] at h2; cases h2
 | some q =>
  obtain ⟨n1, r1⟩ := q
  rw [ht] at h2
  simp only at h2
  cases ht2 : Tks (m - (k + 1)) r1 with
  | none => rw [ht2] at h2; cases h2
  | some q =>
   obtain ⟨ms', r'⟩ := q
   rw [ht2] at h2
   cases h2
   refine ⟨n1, r1, ms', rfl, ht2, rfl, ?_⟩
   have h3 := Tks_add k 1 r0
   rw [h1] at h3
   simp only at h3
   rw [h3, Tks_succ, ht]
   simp only [Tks_zero]
def NodeR (n : Nd) (r : List Ent) : Value → Mem → List HP → Prop := fun w I' L' => L' = [] ∧ ∃ kv rv, w = .tuple #[.agg #[vi n.id, .bool n.grp, kv], rv] ∧ LsAt Nd.Rp I' n.kids kv ∧ I64 n.id ∧ LsAt Ent.rep I' r rv
theorem node_ctr (N : Nat) : ∀ (l : List Ent), l.length ≤ N → ∀ (n : Nd) (r : List Ent) (v : Value) (I : Mem), LsAt Ent.rep I l v → l.length ≤ 1000000 → Tk l = some (n, r) → Ctr Tryz.prog 108 [v] I [] (NodeR n r) := by
 induction N with
 | zero =>
  intro l h n r v I _ _ ht
  have := Tk_le ht
  omega
 | succ N ih =>
  intro l hlN n r v I hv hl ht
  cases l with
  | nil => rw [Tk_nil] at ht; cases ht
  | cons x r0 =>
   rw [Tk_cons] at ht
   split at ht
   ·cases ht
   rename_i hk
   split at ht
   ·cases ht
   rename_i ks rest hks
   cases ht
   obtain ⟨m, hm⟩ : ∃ m : Nat, x.kids = m := ⟨x.kids.toNat, by omega⟩
   rw [hm, Int.toNat_natCast] at hks
   rw [hm] at hk
   simp only [List.length_cons] at hl hlN
   obtain ⟨b, off, cap', cs, he, ⟨t1, t2, t3, t4, rfl, hi⟩, hA⟩ := hv.get 0 (by simp)
   subst he
   have hid := hi.id
   simp only [List.getElem_cons_zero, List.length_cons] at hA hv hid hi
   rw [List.length_cons]
   have hA0 : At I b (off + (0 : Int).toNat * 37) [vi x.id] := hA.zero rfl
   have hA1 : At I b (off + (0 : Int).toNat * 37 + 1) [.bool x.grp] := hA.one (k := 1) rfl
   have hA2 : At I b (off + (0 : Int).toNat * 37 + 2) [vi x.kids] := hA.one (k := 2) rfl
   refine Ctr.intro Tryz.func108 rfl rfl rfl fun E F => ?_
   refine jS (WL.alloc rfl (fun _ => ?_))
   refine jW ?_
   refine jh rfl (jM (jB (j8 999 [] rfl (jT 0 rfl (Val.moveS rfl) (jT 1 rfl (jZ rfl rfl) (jT 2 rfl (jn rfl) (jT 3 rfl (Val.loadS rfl (Rd.imm hA0)) ?_)))))))
   refine jT 4 rfl (Val.moveS rfl) (jT 5 rfl (jZ rfl rfl) (jT 6 rfl (jn rfl) (jT 7 rfl (Val.loadS rfl (Rd.imm hA1)) ?_)))
   refine jT 8 rfl (Val.build (cs := [vi x.id, .bool x.grp, .slice none 0 0]) rfl) ?_
   refine j5 9 rfl (WL.alloc rfl (fun _ => ?_))
   refine jW ?_
   refine jC (j7 [] rfl (j5 10 rfl (WL.stA 2 rfl rfl rfl rfl ?_)))
   refine jC (j7 [] rfl (j6 (jK (jc rfl ?_))))
   rename_i g1 g2
   have hv1 := hv.drop2 1 (by simp)
   have hcp := hv.cap
   simp only [List.drop_succ_cons, List.drop_zero, List.length_cons] at hv1 hcp
   refine jm (Val.sliceFrom2 (m := 1) rfl rfl (by omega) (by omega)) ?_
   generalize Value.slice (some ⟨b, if cap' = 1 then off else off + 1 * 37, none⟩) (r0.length + 1 - 1) (cap' - 1) = rv0 at hv1 ⊢
   rw [hm] at hA2
   refine WL.val Val.assign rfl ?_
   refine jM (jB (jS (jc rfl (jm (jZ rfl rfl) (jm (jn rfl) (jm (Val.loadS rfl (Rd.imm (by assumption))) ?_))))))
   refine ja rfl (jM (WC.block (WC.slNil 72 3 ?_)))
   refine WC.nApp ?_
   refine WC.loop (fun n ρ' I' L' => ∃ (k : Nat) (ns ms : List Nd) (rest : List Ent) (rv : Value) (a : Option Addr) (c : Nat) (p : HP), n = m - k ∧ k ≤ m ∧ I.le I' ∧ ρ' 2 = ptr g1 ∧ ρ' 4 = ptr g2 ∧ ρ' 5 = rv ∧ ρ' 21 = vi m ∧ ρ' 22 = vi k ∧
     L' = [F, box g1 72 [vi 0, .bool false, .slice none 0 0], box g2 72 [vi x.id, .bool x.grp, .slice a ns.length c], p] ∧ OwnL Nd.Rp 72 3 I' ns (.slice a ns.length c) p ∧
     LsAt Ent.rep I' rest rv ∧ Tks k r0 = some (ns, rest) ∧ Tks (m - k) rest = some (ms, r) ∧ ks = ns ++ ms ∧ ns.length = k)
    m ⟨0, [], ks, r0, rv0, _, _, _, rfl, by omega, Mem.le.refl _, rfl, rfl, rfl, rfl, rfl, rfl, ⟨[], rfl, trivial⟩, hv1, Tks_zero _, hks, rfl, rfl⟩ ?_
   rintro n ρ' I0 L' ⟨k, ns, ms, rest, rv, a, c, p, rfl, hkm, hI, q2, q4, q5, q21, q22, rfl, hp, hrv, ht1, ht2, hns, hnl⟩
   refine ju5 q22 q21 q5 q4 q2 ?_
   have hrl := Tks_le ht1
   by_cases hkn : k < m
   ·obtain ⟨n1, r1, ms', hk1, hk2, rfl, hk3⟩ := Tks_step hkn ht1 ht2
    refine jS (jy rfl rfl (jM (jB (jF (jV (jA (jB (WC.block (jS (WL.alloc rfl (fun _ => ?_)))))))))))
    refine jW ?_
    refine jN (WL.val Val.move rfl ?_)
    refine WL.callP [] rfl rfl (ih rest (by omega) n1 r1 _ _ hrv (by omega) hk1) rfl ?_
    rintro _ I2 _ hI2 ⟨rfl, kv, rv2, rfl, hkv, hid1, hrv2⟩
    have hkv0 := hkv
    obtain ⟨a2, c2, rfl⟩ := hkv.sl
    refine jW ?_
    refine je rfl (jm (Val.extractA rfl rfl) (jm (Val.extract rfl rfl) ?_))
    refine WL.stA 4 rfl rfl rfl rfl ?_
    refine WL.val Val.assign rfl ?_
    refine jM (jD (jm (jn rfl) (jm (jp 2 rfl rfl rfl) (jm (jt 4 rfl rfl rfl) (WL.buildSlice (by with_unfolding_all exact rfl) rfl (by with_unfolding_all exact rfl) rfl (fun _ => ?_))))))
    refine jW ?_
    rename_i g5 g6
    refine WL.appOne (y := n1) (cs := [vi n1.id, .bool n1.grp, .slice a2 n1.kids.length c2]) 3 5 rfl rfl (hp.mono hI2) rfl rfl (Nd.rep_iff.2 ⟨hid1, _, rfl, hkv⟩) rfl rfl (by rfl) (by decide) (by omega) (by unfold maxLen; omega) rfl fun aa cc p' hp' => ?_
    refine WL.nSet ?_
    refine jm (jn rfl) (WL.stS 2 rfl rfl rfl rfl ?_)
    refine jC (WX.inNormal (jA (jD (jX rfl rfl (ja rfl (jC (WX.conv (fun w h => h.sub [0, 0, 0, 0] rfl) ?_)))))))
    refine WX.thenK (WK.round (m - (k + 1)) (by omega) ⟨k + 1, ns ++ [n1], ms', r1, rv2, aa, cc, p', rfl, by omega, hI.trans hI2, rfl, rfl, rfl, rfl, rfl, ?_, ?_, hrv2, hk3, hk2, by rw [hns]; simp, by simp [hnl]⟩)
    ·rw [List.length_append]; rfl
    ·rw [List.length_append]; exact hp'
   ·have : k = m := by omega
    subst this
    rw [Nat.sub_self, Tks_zero] at ht2
    cases ht2
    rw [List.append_nil] at hns
    subst hns
    refine jS (jx rfl rfl (jM (jB (jE (WC.exit (WX.thenExit (WX.thenExit (WX.inHit (jK (jm (jt 2 rfl rfl rfl) (WL.val Val.move rfl ?_)))))))))))
    refine WL.stA 1 rfl rfl rfl rfl ?_
    refine WL.val Val.assign rfl ?_
    refine jM (jR (WX.freezeL 3 rfl hp fun I2 hI2 hv => ?_))
    have hJ := hI.trans hI2
    exact jP [] (jr2 rfl (jcL 1 rfl rfl rfl) (ResIs.tmp rfl)) ⟨rfl, _, _, rfl, hv, hid, hrv.mono hI2⟩
end Go.Proofs.YtggcpoleklcmkaaGreatDoor

namespace Go.Dc
open Go.Sl Go.Ls Go.Tr
theorem ents_len (at_ : Int → Atr) (n : Nd) : (ents at_ n).length = n.size := by
 refine Nd.rec (motive_1 := fun n => (ents at_ n).length = n.size) (motive_2 := fun l => (entss at_ l).length = Nd.sizes l) ?_ ?_ ?_ n
 ·intro i g ks h
  rw [ents, Nd.size, List.length_cons, h]; omega
 ·rw [entss, Nd.sizes]; rfl
 ·intro k ks h1 h2
  rw [entss, Nd.sizes, List.length_append, h1, h2]
theorem entss_app (at_ : Int → Atr) : ∀ (a b : List Nd), entss at_ (a ++ b) = entss at_ a ++ entss at_ b
 | [], b => by rw [entss]; rfl
 | x :: a, b => by rw [List.cons_append, entss, entss, entss_app at_ a b, List.append_assoc]
theorem entss_len (at_ : Int → Atr) : ∀ (l : List Nd), (entss at_ l).length = Nd.sizes l
 | [] => by rw [entss, Nd.sizes]; rfl
 | x :: l => by rw [entss, Nd.sizes, List.length_append, ents_len, entss_len at_ l]
theorem ents_eq (at_ : Int → Atr) (n : Nd) : ents at_ n = ⟨n.id, n.grp, n.kids.length, at_ n.id⟩ :: entss at_ n.kids := by cases n; rfl
def AtRep (I : Mem) (at_ : Int → Option Atr) (f : Int → Option Value) : Prop := ∀ i, (at_ i = none ∧ f i = none) ∨ ∃ a v, at_ i = some a ∧ f i = some v ∧ AtrV a v I
theorem AtrV.mono {a : Atr} {v : Value} {I I' : Mem} (h : AtrV a v I) (hI : I.le I') : AtrV a v I' := by
 obtain ⟨t, u, d, q, h1, h2⟩ := h
 exact ⟨t, u, d, q, h1, h2.mono hI⟩
theorem AtRep.mono {I I' : Mem} {at_ : Int → Option Atr} {f : Int → Option Value} (h : AtRep I at_ f) (hI : I.le I') : AtRep I' at_ f := fun i => (h i).imp id fun ⟨a, v, h1, h2, h3⟩ => ⟨a, v, h1, h2, h3.mono hI⟩
abbrev zAtr : Value := .agg (Atr.z.cs (.slice none 0 0) (.slice none 0 0) (.slice none 0 0) (.slice none 0 0)).toArray
theorem AtRep.get {I : Mem} {at_ : Int → Option Atr} {f : Int → Option Value} (h : AtRep I at_ f) (i : Int) : AtrV ((at_ i).getD Atr.z) ((f i).getD zAtr) I := by
 rcases h i with ⟨h1, h2⟩ | ⟨a, v, h1, h2, h3⟩
 ·rw [h1, h2]; exact ⟨_, _, _, _, rfl, Atr.z_at I⟩
 ·rw [h1, h2]; exact h3
def EntN (I0 : Mem) : Rep Ent := fun I x cs => ∃ t u d q, cs = x.cs t u d q ∧ x.at_ I t u d q ∧ NewV I0 I 57 q ∧ NewV I0 I 3 d ∧ NewV I0 I 203 t ∧ NewV I0 I 203 u
instance (I0 : Mem) : RepMono (EntN I0) := ⟨fun h hI => by
 obtain ⟨t, u, d, q, h1, h2, h3, h4, h5, h6⟩ := h
 exact ⟨t, u, d, q, h1, h2.mono hI, h3.mono hI, h4.mono hI, h5.mono hI, h6.mono hI⟩⟩
instance (I0 : Mem) : RepLen (EntN I0) 37 := ⟨fun ⟨t, u, d, q, h, _⟩ => by rw [h]; rfl⟩
theorem LsAt.ent {I0 I : Mem} {l : List Ent} {v : Value} (h : LsAt (EntN I0) I l v) : LsAt Ent.rep I l v := by
 obtain ⟨css, h1, h2⟩ := h
 exact ⟨css, h1, h2.imp fun a b ⟨t, u, d, q, h, k, _⟩ => ⟨t, u, d, q, h, k⟩⟩
end Go.Dc
namespace Go.Proofs.YtggcpoleklcmkaaGreatDoor
open Go.Sl Go.Ls Go.Tr Go.Dc
instance : MapK Tryz.prog 78 zAtr := ⟨by kernel_rfl⟩
attribute [local irreducible] WC WL WX WK WA WAK Val Ctr RunRes ResIs Rd At sl box pt Exit.then Exit.inBlock bodyPost Code.wp wpList
abbrev docBox (b tb mb : Nat) (s : Int) : HP := box b 136 [ptr tb, .map (some mb), vi s]
structure Dm where
 b : Nat
 A : Ar
 mb : Nat
 f : Int → Option Value
 cnt : Nat
 segs : Int
abbrev Dm.hp (D : Dm) : List HP := docBox D.b D.A.b D.mb D.segs :: mp D.mb D.f D.cnt :: D.A.hp
structure DAbs (I : Mem) (D : Dm) (d : Dr) : Prop where
 abs : Abs D.A d.top
 rep : AtRep I d.at_ D.f
 segs : D.segs = d.segs
 dom : ∀ i, (d.at_ i).isSome = true ↔ i ≠ 0 ∧ i ∈ d.top.order
 lim : ∀ i a, d.at_ i = some a → a.lim
theorem DAbs.mono {I I' : Mem} {D : Dm} {d : Dr} (h : DAbs I D d) (hI : I.le I') : DAbs I' D d := ⟨h.abs, h.rep.mono hI, h.segs, h.dom, h.lim⟩
theorem entriesN (I0 : Mem) (at_ : Int → Option Atr) (f : Int → Option Value) (b tb mb cnt : Nat) (s : Int) (hlim : ∀ i a, at_ i = some a → a.lim) (N : Nat) : ∀ (nd : Nd), nd.size ≤ N → ∀ (kv : Value) (I : Mem), nd.size ≤ 1000000 → LsAt Nd.Rp I nd.kids kv → I64 nd.id → AtRep I at_ f → I0.le I →
  Ctr Tryz.prog 77 [ptr b, .agg #[vi nd.id, .bool nd.grp, kv]] I [docBox b tb mb s, mp mb f cnt] (KeepR [docBox b tb mb s, mp mb f cnt] fun v I' => LsAt (EntN I0) I' (ents (fun i => (at_ i).getD Atr.z) nd) v ∧ NewV I0 I' 69 v) := by
 induction N with
 | zero => intro nd h; have := nd.size_pos; omega
 | succ N ih =>
  intro nd hs kv I hb hkv hid hat hI0
  have hkv0 := hkv
  obtain ⟨ka, kc, rfl⟩ := hkv.sl
  have hsz := sizes_lt nd
  have hll := Nd.len_le_sizes nd.kids
  obtain ⟨t0, u0, d0, q0, hf, ha0⟩ := hat.get nd.id
  have hl0 : ((at_ nd.id).getD Atr.z).lim := by
   cases h : at_ nd.id with
   | none => exact ⟨by decide, by decide, by decide, by decide⟩
   | some a => exact hlim _ _ h
  generalize hg0 : (at_ nd.id).getD Atr.z = a0 at *
  refine Ctr.intro Tryz.func77 rfl rfl rfl fun E F => ?_
  refine jS (WL.boxA rfl rfl (fun _ => ?_))
  refine jW ?_
  refine jh rfl (jM (jB (j8 999 [1, 1, 1] rfl (jT 0 rfl (jn rfl) (jT 1 rfl (jp 2 rfl rfl rfl) (jT 2 rfl (jn rfl) (jT 3 rfl (jp 2 rfl rfl rfl) (jT 4 rfl (jn rfl) (jT 5 rfl (jp 2 rfl rfl rfl) (jT 6 rfl (jo rfl) (jT 7 rfl (Val.moveP rfl) (jT 8 rfl (jr rfl) (jT 9 rfl (jn rfl) (jT 10 rfl (jp 0 rfl rfl rfl) (jT 11 rfl (jn rfl) (jT 12 rfl (jp 2 rfl rfl rfl) (jT 13 rfl (Val.lookup1v 1 hf rfl rfl rfl) ?_)))))))))))))))))
  refine j5 14 rfl (WL.callP [] rfl rfl (copiedN_ctr a0 _ _ _ _ _ ha0 hl0) rfl ?_)
  rintro _ I1 _ hI1 ⟨rfl, t1, u1, d1, q1, rfl, ha1, hnq, hnd, hnt, hnu⟩
  refine jW ?_
  refine jC (j9 [1, 1, 1] (hI1) rfl ?_)
  obtain ⟨b1, r1, b2, r2, b3, r3, b4, r4, rfl, rfl, rfl, rfl⟩ := ha1.sl
  refine jT 15 rfl (Val.build (cs := Ent.cs ⟨nd.id, nd.grp, nd.kids.length, a0⟩ (.slice b1 a0.sty.fill.stops.length r1) (.slice b2 a0.sty.pen.stops.length r2) (.slice b3 a0.sty.dash.length r3) (.slice b4 a0.path.length r4)) rfl) ?_
  refine j5 16 rfl (WL.buildSlice (by with_unfolding_all exact rfl) rfl (by with_unfolding_all exact rfl) rfl (fun _ => ?_))
  rename_i g3 g4
  refine jW ?_
  refine WL.boxSl (e := 69) (sz := 37) (n := 1) 4 rfl rfl (by decide) ?_
  refine jC (j9 [1, 1, 1] (hI1) rfl (jT 17 rfl (Val.assignS rfl) (j6 (jA (jB (jS (jm (jn rfl) (jm (jp 3 rfl rfl rfl) (jm (jo rfl) (ja rfl (jM (WC.block ?_))))))))))))
  have hp0 : OwnL (EntN I0) 69 37 I1 [⟨nd.id, nd.grp, nd.kids.length, a0⟩] (.slice (some ⟨g4, 0, none⟩) 1 1) (sl 69 37 (.slice (some ⟨g4, 0, none⟩) 1 1) 1 (Ent.cs ⟨nd.id, nd.grp, nd.kids.length, a0⟩ (.slice b1 a0.sty.fill.stops.length r1) (.slice b2 a0.sty.pen.stops.length r2) (.slice b3 a0.sty.dash.length r3) (.slice b4 a0.path.length r4))) :=
   ⟨[_], rfl, ⟨_, _, _, _, rfl, ⟨hid, ⟨by show (-9223372036854775808 : Int) ≤ (nd.kids.length : Int); omega, by show (nd.kids.length : Int) ≤ 9223372036854775807; omega⟩, ha1⟩, hnq.less hI0, hnd.less hI0, hnt.less hI0, hnu.less hI0⟩, trivial⟩
  have hel := entss_len (fun i => (at_ i).getD Atr.z) nd.kids
  refine WC.loop (fun n ρ' I' L' => ∃ (k : Nat) (a : Option Addr) (c : Nat) (p : HP), n = nd.kids.length - k ∧ k ≤ nd.kids.length ∧ I1.le I' ∧ ρ' 0 = ptr b ∧ ρ' 5 = .slice a (1 + Nd.sizes (nd.kids.take k)) c ∧ ρ' 26 = .slice ka nd.kids.length kc ∧ ρ' 27 = vi nd.kids.length ∧ ρ' 28 = vi k ∧
    L' = [F, docBox b tb mb s, mp mb f cnt, box g3 72 [vi nd.id, .bool nd.grp, .slice ka nd.kids.length kc], p] ∧ OwnL (EntN I0) 69 37 I' (⟨nd.id, nd.grp, nd.kids.length, a0⟩ :: entss (fun i => (at_ i).getD Atr.z) (nd.kids.take k)) (.slice a (1 + Nd.sizes (nd.kids.take k)) c) p)
   nd.kids.length ⟨0, _, _, _, rfl, by omega, Mem.le.refl _, rfl, rfl, rfl, rfl, rfl, rfl, hp0⟩ ?_
  rintro n ρ' I2 L' ⟨k, a, c, p, rfl, hk, hI2, q0, q5, q26, q27, q28, rfl, hp⟩
  refine ju5 q28 q27 q26 q5 q0 ?_
  by_cases hkn : k < nd.kids.length
  ·obtain ⟨bk, ofk, cak, cs, he, hR, hA⟩ := (hkv.mono (hI1.trans hI2)).get k hkn
   cases he
   obtain ⟨hik, kv1, rfl, hkv1⟩ := Nd.rep_iff.1 hR
   have hkv10 := hkv1
   obtain ⟨ka1, kc1, rfl⟩ := hkv1.sl
   have hbk := kid_sz hkn
   have hst := Nd.sizes_take nd.kids (k + 1)
   have htk : Nd.sizes (nd.kids.take (k + 1)) = Nd.sizes (nd.kids.take k) + (nd.kids[k]).size := by rw [take1 _ _ hkn, Nd.sizes_app, Nd.sizes, Nd.sizes, Nat.add_zero]
   have hen : entss (fun i => (at_ i).getD Atr.z) (nd.kids.take (k + 1)) = entss (fun i => (at_ i).getD Atr.z) (nd.kids.take k) ++ ents (fun i => (at_ i).getD Atr.z) (nd.kids[k]) := by rw [take1 _ _ hkn, entss_app, entss, entss, List.append_nil]
   have hek := ents_len (fun i => (at_ i).getD Atr.z) (nd.kids[k])
   have hets := entss_len (fun i => (at_ i).getD Atr.z) (nd.kids.take k)
   refine jS (jy rfl rfl (jM (jB (jF (jV (jA (jB (WC.block (jS (jm (jZ rfl rfl) (jm (Val.loadI rfl (by assumption) rfl) ?_)))))))))))
   refine WL.alloc rfl (fun _ => ?_)
   refine jW ?_
   refine WL.stA 5 rfl rfl rfl rfl ?_
   refine jM (jD (jc rfl (jd rfl (jm (jt 5 rfl rfl rfl) (WL.callR [1, 1] rfl rfl rfl (ih _ (kid_lt hs hkn) _ _ (by omega) hkv10 hik (hat.mono (hI1.trans hI2)) (hI0.trans (hI1.trans hI2))) rfl ?_)))))
   rintro v I3 hI3 ⟨hv, _⟩
   refine WL.appL (R := EntN I0) 4 rfl rfl (hp.mono hI3) rfl hv (fun x cs h => ?_) (by rfl) (by decide) (by simp only [List.length_cons, hets, hek]; omega) (by simp only [List.length_cons, hets, hek]; unfold maxLen; omega) rfl fun aa cc p' hp' => ?_
   ·obtain ⟨t1, u1, d1, q1, rfl, h, _⟩ := h
    obtain ⟨_, _, _, _, _, _, _, _, rfl, rfl, rfl, rfl⟩ := h.sl
    rfl
   refine WL.nSet ?_
   have hlen : ((⟨nd.id, nd.grp, nd.kids.length, a0⟩ : Ent) :: entss (fun i => (at_ i).getD Atr.z) (nd.kids.take k) ++ ents (fun i => (at_ i).getD Atr.z) (nd.kids[k])).length = 1 + Nd.sizes (nd.kids.take (k + 1)) := by
    simp only [List.length_append, List.length_cons, hets, hek]; omega
   rw [hlen] at hp' ⊢
   rw [List.cons_append, ← hen] at hp'
   exact jh rfl (jC (WX.inNormal (jA (jD (jX rfl rfl (ja rfl (jC (WX.conv (fun w h => h.sub [0, 0, 0, 0, 0] rfl) (WX.thenK (WK.round (nd.kids.length - (k + 1)) (by omega) ⟨k + 1, aa, cc, p', rfl, by omega, hI2.trans hI3, rfl, rfl, rfl, rfl, rfl, rfl, hp'⟩))))))))))
  ·have : k = nd.kids.length := by omega
   subst this
   rw [List.take_length] at hp ⊢
   refine jS (jx rfl rfl (jM (jB (jE (WC.exit (WX.thenExit (WX.thenExit (WX.inHit (jK (jc rfl (jh rfl (jM (jR (WX.freezeN 4 rfl hp fun I3 hI3 hv hnv => ?_))))))))))))))
   have hJ := hI1.trans (hI2.trans hI3)
   refine jP [0, 0] (jr1 rfl (jtS rfl)) ?_
   refine ⟨rfl, ?_, hnv.less (hI0.trans (hI1.trans hI2))⟩
   rw [ents_eq]
   simp only [hg0]
   exact hv
theorem entries_ctr (at_ : Int → Option Atr) (f : Int → Option Value) (b tb mb cnt : Nat) (s : Int) (hlim : ∀ i a, at_ i = some a → a.lim) (N : Nat) (nd : Nd) (h1 : nd.size ≤ N) (kv : Value) (I : Mem) (h2 : nd.size ≤ 1000000) (h3 : LsAt Nd.Rp I nd.kids kv) (h4 : I64 nd.id) (h5 : AtRep I at_ f) :
  Ctr Tryz.prog 77 [ptr b, .agg #[vi nd.id, .bool nd.grp, kv]] I [docBox b tb mb s, mp mb f cnt] (KeepR [docBox b tb mb s, mp mb f cnt] fun v I' => LsAt Ent.rep I' (ents (fun i => (at_ i).getD Atr.z) nd) v) :=
 Ctr.mono (entriesN I at_ f b tb mb cnt s hlim N nd h1 kv I h2 h3 h4 h5 (Mem.le.refl _)) fun v I' L' _ ⟨k1, k2, _⟩ => ⟨k1, LsAt.ent k2⟩
theorem dNew (I : Mem) : Ctr Tryz.prog 32 [] I [] (fun v I' L' => I' = I ∧ ∃ b tb mb cg db, v = ptr db ∧ L' = docBox db b tb 0 :: mp tb (fun _ => none) 0 :: (Ar.fresh b mb cg).hp) := by
 refine Ctr.intro Tryz.func32 rfl rfl rfl fun E F => ?_
 refine jS (ji rfl (jN (WL.callP [] rfl rfl (tNew _) rfl ?_)))
 rintro _ I1 _ _ ⟨rfl, b, mb, cg, rfl, rfl⟩
 refine jW ?_
 refine WL.makeMap rfl fun tb => ?_
 refine jW ?_
 refine jm (Val.build (cs := [ptr b, .map (some tb), vi 0]) rfl) ?_
 refine WL.boxA rfl rfl (fun _ => ?_)
 refine jW ?_
 refine ji rfl (jM (jR ?_))
 rename_i db
 exact jP [6, 5, 0, 0, 0, 0, 0] (jr1 rfl (ResIs.tmpP rfl)) ⟨rfl, b, tb, mb, cg, db, rfl, rfl⟩
theorem dEntriesN (D : Dm) (d : Dr) (I : Mem) (hD : DAbs I D d) : Ctr Tryz.prog 28 [ptr D.b] I D.hp (KeepR D.hp fun v I' => LsAt (EntN I) I' d.entries v ∧ NewV I I' 69 v) := by
 have hsz := hD.abs.size_le
 have hit : I64 d.top.id := by rw [hD.abs.id0]; exact ⟨by decide, by decide⟩
 refine Ctr.intro Tryz.func28 rfl rfl rfl fun E F => ?_
 refine jS (jh rfl (jN (jd rfl (jm (jr rfl) (jm (jn rfl) (jm (jp 1 rfl rfl rfl) (WL.callR [3, 3, 3, 3, 3] rfl rfl rfl (aNode D.A d.top hD.abs 0 _) rfl ?_)))))))
 rintro _ I1 hI1 ⟨_, rfl, kn, rfl, hkn, hin⟩
 rw [hD.abs.find0] at hkn hin ⊢
 simp only [Option.isSome, Option.getD] at hkn hin ⊢
 have hkn0 := hkn
 obtain ⟨na, nc, rfl⟩ := hkn.sl
 refine je rfl (jm (Val.extractA rfl rfl) (jm (Val.extractB rfl rfl) (WL.alloc rfl (fun _ => ?_))))
 refine jW ?_
 refine WL.stA 8 rfl rfl rfl rfl ?_
 refine jg rfl (jN (jd rfl (jm (jt 8 rfl rfl rfl) (WL.callR [1, 1] rfl rfl rfl (entriesN I d.at_ D.f D.b D.A.b D.mb D.cnt D.segs hD.lim _ d.top (Nat.le_refl _) _ _ (by omega) hkn0 hin (hD.rep.mono hI1) hI1) rfl ?_))))
 rintro v I2 hI2 ⟨hv, hnv⟩
 have hel := ents_len (fun i => (d.at_ i).getD Atr.z) d.top
 have hpos := d.top.size_pos
 obtain ⟨bb, off, cap, cs, he, _, _⟩ := hv.get 0 (by omega)
 subst he
 have hv1 := hv.drop2 1 (by omega)
 have hcp := hv.cap
 refine jm (Val.sliceFrom2 (m := 1) rfl rfl (by omega) (by omega)) ?_
 refine jh rfl (jM (jR ?_))
 have hJ := hI1.trans hI2
 refine jP [0, 0, 0, 0, 0, 0, 0] (jr1 rfl (jtS rfl)) ?_
 refine ⟨rfl, ?_, hnv.part⟩
 rw [Dr.entries, ← List.drop_one]
 exact hv1
theorem dEntries (D : Dm) (d : Dr) (I : Mem) (hD : DAbs I D d) : Ctr Tryz.prog 28 [ptr D.b] I D.hp (KeepR D.hp fun v I' => LsAt Ent.rep I' d.entries v) :=
 Ctr.mono (dEntriesN D d I hD) fun v I' L' _ ⟨h1, h2, _⟩ => ⟨h1, LsAt.ent h2⟩
end Go.Proofs.YtggcpoleklcmkaaGreatDoor

namespace Go.Tr
open Go.Sl Go.Ls
namespace Nd
theorem count_with {q : Int} (x : Int) (ks : List Nd) (n : Nd) : ∀ p, Nd.find q n = some p → n.order.Nodup → (Nd.with_ q ks n).order.count x + (orders p.kids).count x = n.order.count x + (orders ks).count x := by
 refine Nd.rec (motive_1 := fun n => ∀ p, Nd.find q n = some p → n.order.Nodup → (Nd.with_ q ks n).order.count x + (orders p.kids).count x = n.order.count x + (orders ks).count x) (motive_2 := fun l => ∀ p, finds q l = some p → (orders l).Nodup → (orders (withs q ks l)).count x + (orders p.kids).count x = (orders l).count x + (orders ks).count x) ?_ ?_ ?_ n
 ·intro j g ks0 ih p hp ho
  rw [Nd.find] at hp
  rw [Nd.with_, order, order, List.count_cons, List.count_cons]
  rw [order, List.nodup_cons] at ho
  by_cases hj : j = q
  ·rw [if_pos hj] at hp; cases hp
   rw [if_pos hj]
   show _ + (orders ks0).count x = _
   omega
  ·rw [if_neg hj] at hp
   rw [if_neg hj]
   have := ih p hp ho.2
   omega
 ·intro p hp; simp [finds] at hp
 ·intro k l h1 h2 p hp ho
  rw [finds] at hp
  rw [orders, List.nodup_append] at ho
  rw [withs, orders, orders, List.count_append, List.count_append]
  cases hk : Nd.find q k with
  | some y =>
   rw [hk] at hp; cases hp
   have hq : q ∈ k.order := (find_some q k).1 (by rw [hk]; rfl)
   have h3 := h1 _ hk ho.1
   rw [withs_none q _ l fun hl => ho.2.2 q hq q hl rfl]
   omega
  | none =>
   rw [hk] at hp
   have hn : q ∉ k.order := fun hm => by
    have := (find_some q k).2 hm
    rw [hk] at this; cases this
   have h3 := h2 _ hp ho.2.1
   rw [with_none q _ k hn]
   omega
theorem add_err {top n : Nd} {p ix : Int} : (Nd.add top p ix n).2 ≠ 0 → (Nd.add top p ix n).1 = top := by
 rw [Nd.add]
 repeat' split
 all_goals (intro h; first | rfl | exact absurd rfl h)
theorem move_err {top : Nd} {i p ix : Int} : (Nd.move top i p ix).2 ≠ 0 → (Nd.move top i p ix).1 = top := by
 rw [Nd.move]
 repeat' split
 all_goals (intro h; first | rfl | exact absurd rfl h)
theorem wrap_err {top : Nd} {i p ix c : Int} : (Nd.wrap top i p ix c).2 ≠ 0 → (Nd.wrap top i p ix c).1 = top := by
 rw [Nd.wrap]
 repeat' split
 all_goals (intro h; first | rfl | exact absurd rfl h)
theorem unwrap_err {top : Nd} {i : Int} : (Nd.unwrap top i).2.2.2.2 ≠ 0 → (Nd.unwrap top i).1 = top := by
 rw [Nd.unwrap]
 repeat' split
 all_goals (intro h; first | rfl | exact absurd rfl h)
theorem count_td (x : Int) (l : List Nd) (k : Nat) : (orders (l.take k)).count x + (orders (l.drop k)).count x = (orders l).count x := by
 rw [← List.count_append, ← orders_app, List.take_append_drop]
theorem count_rem (x : Int) {l : List Nd} {k : Nat} (hk : k < l.length) : (orders (l.take k ++ l.drop (k + 1))).count x + (l[k]).order.count x = (orders l).count x := by
 have h1 := count_td x l k
 rw [drop_eq hk, orders, List.count_append] at h1
 rw [orders_app, List.count_append]; omega
theorem count_find {i : Int} {n : Nd} : (Nd.find i n).isSome = true ↔ 0 < n.order.count i := by
 rw [find_some, List.count_pos_iff]
theorem count_add {top n : Nd} {p ix : Int} (ho : top.order.Nodup) (h : (Nd.add top p ix n).2 = 0) (x : Int) : (Nd.add top p ix n).1.order.count x = top.order.count x + n.order.count x := by
 rw [Nd.add] at h ⊢
 split at h
 ·exact absurd h (by show ¬ (31 : Int) = 0; decide)
 ·rename_i m hm
  split at h
  ·exact absurd h (by show ¬ (33 : Int) = 0; decide)
  ·rename_i hg
   rw [if_neg hg]
   split at h
   ·exact absurd h (by show ¬ (30 : Int) = 0; decide)
   ·rename_i hx
    rw [if_neg hx]
    split at h
    ·rename_i hf
     exact absurd h hf
    ·rename_i hf
     rw [if_neg hf]
     have h1 := count_with x (m.kids.take ix.toNat ++ n :: m.kids.drop ix.toNat) top m hm ho
     have h2 := count_td x m.kids ix.toNat
     rw [orders_app, orders, List.count_append, List.count_append] at h1
     simp only
     omega
end Nd
section
variable {A : Ar} {top : Nd}
open Nd
theorem Abs.count_rem (hA : Abs A top) {i : Int} (h : (Nd.remove top i).2.2.2.2 = 0) (x : Int) : (Nd.remove top i).1.order.count x + (Nd.remove top i).2.1.order.count x = top.order.count x := by
 rcases hA.rem i with ⟨h0, _⟩ | ⟨p, k, hk, _, _, _, _, hf, e, _⟩
 ·exact absurd h h0
 ·rw [e]
  have h1 := count_with x (p.kids.take k ++ p.kids.drop (k + 1)) top p hf hA.od
  have h2 := Nd.count_rem x hk
  simp only
  omega
theorem Abs.rem_nodup (hA : Abs A top) {i : Int} (h : (Nd.remove top i).2.2.2.2 = 0) : (Nd.remove top i).1.order.Nodup ∧ (Nd.remove top i).2.1.order.Nodup ∧ (∀ x ∈ (Nd.remove top i).1.order, x ∉ (Nd.remove top i).2.1.order) ∧ (Nd.remove top i).2.1.id = i ∧ i ≠ 0 := by
 rcases hA.rem i with ⟨h0, _⟩ | ⟨p, k, hk, hi, hid, _, _, hf, e, o1, o2, o3⟩
 ·exact absurd h h0
 ·rw [e]
  exact ⟨o1, o2, o3, hid, hi⟩
theorem Abs.count_move (hA : Abs A top) {i p ix : Int} (h : (Nd.move top i p ix).2 = 0) (x : Int) : (Nd.move top i p ix).1.order.count x = top.order.count x := by
 rw [Nd.move] at h ⊢
 split at h
 ·rename_i h0; exact absurd h h0
 ·rename_i h0
  rw [if_neg h0]
  have h0' := Decidable.of_not_not h0
  have hc := hA.count_rem h0'
  obtain ⟨o1, o2, _⟩ := hA.rem_nodup h0'
  split at h
  ·exact absurd h (by show ¬ (31 : Int) = 0; decide)
  ·rename_i m hm
   split at h
   ·exact absurd h (by show ¬ (33 : Int) = 0; decide)
   ·rename_i hg
    rw [if_neg hg]
    split at h
    ·exact absurd h (by show ¬ (34 : Int) = 0; decide)
    ·rename_i hcy
     rw [if_neg hcy]
     have hp1 := count_find (i := p) (n := top).1 (by rw [hm]; rfl)
     have hp2 : ¬ 0 < (Nd.remove top i).2.1.order.count p := fun hh => hcy (count_find.2 hh)
     have hp3 := hc p
     obtain ⟨m', hm'⟩ := Option.isSome_iff_exists.1 (count_find.2 (show 0 < (Nd.remove top i).1.order.count p by omega))
     rw [hm'] at h ⊢
     simp only [Option.getD_some] at h ⊢
     split at h
     ·exact absurd h (by show ¬ (30 : Int) = 0; decide)
     ·rename_i hix
      rw [if_neg hix]
      split at h
      ·exact absurd h (by show ¬ (35 : Int) = 0; decide)
      ·rename_i hd
       rw [if_neg hd]
       have h1 := count_with x (m'.kids.take ix.toNat ++ (Nd.remove top i).2.1 :: m'.kids.drop ix.toNat) (Nd.remove top i).1 m' hm' o1
       have h2 := count_td x m'.kids ix.toNat
       rw [orders_app, orders, List.count_append, List.count_append] at h1
       have := hc x
       simp only
       omega
theorem Nd.count_wrap (ho : top.order.Nodup) {i p ix c : Int} (h : (Nd.wrap top i p ix c).2 = 0) (x : Int) : (Nd.wrap top i p ix c).1.order.count x = top.order.count x + (if i = x then 1 else 0) := by
 rw [Nd.wrap] at h ⊢
 split at h
 ·exact absurd h (by show ¬ (31 : Int) = 0; decide)
 ·rename_i m hm
  split at h
  ·exact absurd h (by show ¬ (33 : Int) = 0; decide)
  ·rename_i hg
   rw [if_neg hg]
   split at h
   ·exact absurd h (by show ¬ (30 : Int) = 0; decide)
   ·rename_i hx
    rw [if_neg hx]
    split at h
    ·rename_i hf
     exact absurd h hf
    ·rename_i hf
     rw [if_neg hf]
     split at h
     ·exact absurd h (by show ¬ (35 : Int) = 0; decide)
     ·rename_i hd
      rw [if_neg hd]
      have h1 := count_with x (m.kids.take ix.toNat ++ (mk i true ((m.kids.drop ix.toNat).take c.toNat) :: m.kids.drop (ix.toNat + c.toNat))) top m hm ho
      have h2 := count_td x m.kids ix.toNat
      have h3 := count_td x (m.kids.drop ix.toNat) c.toNat
      rw [List.drop_drop] at h3
      rw [orders_app, orders, order, List.count_append, List.count_append, List.count_cons] at h1
      simp only [beq_iff_eq] at h1
      simp only
      omega
theorem Abs.count_unwrap (hA : Abs A top) {i : Int} (h : (Nd.unwrap top i).2.2.2.2 = 0) (x : Int) : (Nd.unwrap top i).1.order.count x + (if i = x then 1 else 0) = top.order.count x := by
 rw [Nd.unwrap] at h ⊢
 split at h
 ·rename_i h0; exact absurd h h0
 ·rename_i h0
  rw [if_neg h0]
  split at h
  ·exact absurd h (by show ¬ (33 : Int) = 0; decide)
  ·rename_i hg
   rw [if_neg hg]
   rcases hA.rem i with ⟨h1, _⟩ | ⟨p, k, hk, _, hid, _, _, hf, e, _⟩
   ·exact absurd (Decidable.of_not_not h0) h1
   ·rw [e]
    simp only [hf, Option.getD_some, Int.toNat_natCast]
    have h1 := count_with x (p.kids.take k ++ ((p.kids[k]).kids ++ p.kids.drop (k + 1))) top p hf hA.od
    have h2 := Nd.count_rem x hk
    have h3 : (p.kids[k]).order.count x = (orders (p.kids[k]).kids).count x + (if i = x then 1 else 0) := by
     rw [order_eq, List.count_cons, hid]
     simp only [beq_iff_eq]
    rw [orders_app, orders_app, List.count_append, List.count_append] at h1
    rw [orders_app, List.count_append] at h2
    omega
end
end Go.Tr

namespace Go.Dc
open Go.Sl Go.Ls Go.Tr
theorem tk_order : ∀ (f : Nat), (∀ (l : List Ent) n r, tk f l = some (n, r) → l.map Ent.id = n.order ++ r.map Ent.id) ∧ ∀ (k : Nat) (l : List Ent) ns r, tks f k l = some (ns, r) → l.map Ent.id = Nd.orders ns ++ r.map Ent.id := by
 intro f
 induction f with
 | zero =>
  refine ⟨fun l n r h => ?_, fun k l ns r h => ?_⟩
  ·rw [tk] at h; cases h
  ·cases k with
   | zero => rw [tks] at h; cases h; rfl
   | succ k => rw [tks] at h; cases h
 | succ f ih =>
  refine ⟨fun l n r h => ?_, fun k l ns r h => ?_⟩
  ·cases l with
   | nil => rw [tk] at h; cases h
   | cons x l =>
    rw [tk] at h
    split at h
    ·cases h
    ·split at h
     ·cases h
     ·rename_i ks rest he
      cases h
      rw [List.map_cons, ih.2 _ _ _ _ he, Nd.order]; rfl
  ·cases k with
   | zero => rw [tks] at h; cases h; rfl
   | succ k =>
    rw [tks] at h
    split at h
    ·cases h
    ·rename_i n r1 he
     split at h
     ·cases h
     ·rename_i ns' r2 he2
      cases h
      rw [ih.1 _ _ _ he, ih.2 _ _ _ _ he2, Nd.orders, List.append_assoc]
theorem Tk_order {l : List Ent} {n : Nd} {r : List Ent} (h : Tk l = some (n, r)) : l.map Ent.id = n.order ++ r.map Ent.id := (tk_order _).1 _ _ _ h
theorem nodeOf_eq {l : List Ent} {n : Nd} (h : Tk l = some (n, [])) : nodeOf l = n := by
 rw [nodeOf, show tk (2 * l.length) l = some (n, []) from h]; rfl
theorem Tk_size {l : List Ent} {n : Nd} (h : Tk l = some (n, [])) : n.size = l.length := by
 have h1 := congrArg List.length (Tk_order h)
 simp only [List.length_map, List.map_nil, List.append_nil] at h1
 rw [h1, Nd.order_len]
/-! what is right is not long -/
theorem stopsCheck_lim {l : List Stp} (h : stopsCheck l = 0) : l.length ≤ 16 := by
 rw [stopsCheck] at h
 split at h
 ·rename_i hg
  have hf : ∀ (l : List Stp) (b : Option Stp), stopsGo false b l = false := fun l => by
   induction l with
   | nil => intro b; rfl
   | cons x l ih => intro b; rw [stopsGo, Bool.false_and]; exact ih _
  cases hd : decide (1 ≤ l.length ∧ l.length ≤ 16) with
  | true => exact (of_decide_eq_true hd).2
  | false => rw [hd, hf] at hg; cases hg
 ·exact absurd h (by decide)
theorem Pnt.check_lim {p : Pnt} (h : p.check = 0) : p.stops.length ≤ 16 := by
 rw [Pnt.check] at h
 split at h
 ·exact absurd h (by decide)
 split at h
 ·exact absurd h (by decide)
 split at h
 ·exact absurd h (by decide)
 rename_i h3
 split at h
 ·exact absurd h (by decide)
 split at h
 ·exact stopsCheck_lim h
 ·rename_i h5
  have : ¬ 0 < p.stops.length := fun e => h3 ⟨h5, .inr (.inr e)⟩
  omega
theorem dashCheck_lim {l : List Int} {ph : Int} (h : dashCheck l ph = 0) : l.length ≤ 8 := by
 rw [dashCheck] at h
 split at h
 ·rename_i h1; omega
 split at h
 ·exact absurd h (by decide)
 ·omega
theorem Sty.check_lim {s : Sty} (h : s.check = 0) : s.fill.stops.length ≤ 16 ∧ s.pen.stops.length ≤ 16 ∧ s.dash.length ≤ 8 := by
 rw [Sty.check] at h
 split at h
 ·rename_i h1; exact absurd h h1
 rename_i h1
 split at h
 ·rename_i h2; exact absurd h h2
 rename_i h2
 split at h
 ·exact absurd h (by decide)
 exact ⟨Pnt.check_lim (Decidable.of_not_not h1), Pnt.check_lim (Decidable.of_not_not h2), dashCheck_lim h⟩
theorem pathCheck_lim {l : List Sg} (h : pathCheck l = 0) : l.length ≤ 4096 := by
 rw [pathCheck] at h
 split at h
 ·exact absurd h (by decide)
 ·omega
theorem Atr.check_ok {a : Atr} {g : Bool} (h : a.check g = 0) : a.mtx.right ∧ a.sty.check = 0 ∧ pathCheck a.path = 0 := by
 rw [Atr.check] at h
 split at h
 ·exact absurd h (by decide)
 rename_i h1
 split at h
 ·rename_i h2; exact absurd h h2
 rename_i h2
 split at h
 ·rename_i h3; exact absurd h h3
 rename_i h3
 exact ⟨Decidable.of_not_not h1, Decidable.of_not_not h2, Decidable.of_not_not h3⟩
theorem Atr.check_lim {a : Atr} {g : Bool} (h : a.check g = 0) : a.lim := by
 obtain ⟨_, h1, h2⟩ := Atr.check_ok h
 obtain ⟨a1, a2, a3⟩ := Sty.check_lim h1
 have := pathCheck_lim h2
 exact ⟨by omega, by omega, by omega, by omega⟩
theorem putAll_some : ∀ (l : List Ent) (f : Int → Option Atr) (i : Int), (putAll f l i).isSome = true ↔ (f i).isSome = true ∨ i ∈ l.map Ent.id
 | [], f, i => by simp [putAll]
 | x :: l, f, i => by
  rw [putAll, putAll_some l, upAt, List.map_cons, List.mem_cons]
  by_cases h : i = x.id
  ·simp [h]
  ·simp [h]
theorem putAll_of : ∀ (l : List Ent) (f : Int → Option Atr) (i : Int) (a : Atr), putAll f l i = some a → f i = some a ∨ ∃ x ∈ l, x.id = i ∧ x.atr = a
 | [], f, i, a, h => .inl h
 | x :: l, f, i, a, h => by
  rw [putAll] at h
  rcases putAll_of l _ i a h with h | ⟨y, hy, h1, h2⟩
  ·rw [upAt] at h
   split at h
   ·rename_i hi
    cases h
    exact .inr ⟨x, List.mem_cons_self .., hi.symm, rfl⟩
   ·exact .inl h
  ·exact .inr ⟨y, List.mem_cons_of_mem _ hy, h1, h2⟩
theorem mem_count {l : List Int} {i : Int} : i ∈ l ↔ 0 < l.count i := List.count_pos_iff.symm
theorem nodup_count {l : List Int} (h : l.Nodup) (i : Int) : l.count i ≤ 1 := List.nodup_iff_count.1 h i
theorem dom_wrap {at_ : Int → Option Atr} {o o' : List Int} {j : Int} {a : Atr} (hdom : ∀ i, (at_ i).isSome = true ↔ i ≠ 0 ∧ i ∈ o) (h0 : 0 ∈ o) (hn : o'.Nodup) (hc : ∀ x, o'.count x = o.count x + (if j = x then 1 else 0)) : ∀ i, (upAt at_ j a i).isSome = true ↔ i ≠ 0 ∧ i ∈ o' := by
 intro i
 have h1 := hc i
 have h2 := nodup_count hn i
 rw [mem_count] at h0 ⊢
 rw [upAt]
 by_cases h : i = j
 ·subst h
  rw [if_pos rfl] at h1 ⊢
  refine ⟨fun _ => ⟨fun e => ?_, by omega⟩, fun _ => rfl⟩
  subst e
  omega
 ·rw [if_neg (fun e => h e.symm)] at h1
  rw [if_neg h, hdom i, mem_count]
  exact ⟨fun e => ⟨e.1, by have := e.2; omega⟩, fun e => ⟨e.1, by have := e.2; omega⟩⟩
theorem dom_add {at_ : Int → Option Atr} {o o' m : List Int} {l : List Ent} (hdom : ∀ i, (at_ i).isSome = true ↔ i ≠ 0 ∧ i ∈ o) (h0 : 0 ∈ o) (hn : o'.Nodup) (hm : l.map Ent.id = m) (hc : ∀ x, o'.count x = o.count x + m.count x) : ∀ i, (putAll at_ l i).isSome = true ↔ i ≠ 0 ∧ i ∈ o' := by
 intro i
 have h1 := hc i
 have h2 := nodup_count hn i
 rw [putAll_some, hm, hdom i]
 simp only [mem_count] at h0 ⊢
 constructor
 ·rintro (⟨a, b⟩ | b)
  ·exact ⟨a, by omega⟩
  ·refine ⟨fun e => ?_, by omega⟩
   subst e
   omega
 ·rintro ⟨a, b⟩
  rcases Nat.eq_zero_or_pos (m.count i) with h | h
  ·exact .inl ⟨a, by omega⟩
  ·exact .inr h
theorem mem0 {A : Ar} {top : Nd} (h : Abs A top) : 0 ∈ top.order := by
 have := Nd.id_mem top
 rwa [h.id0] at this
end Go.Dc

namespace Go.Dc
open Go.Sl Go.Ls Go.Tr
theorem Cm.z_at (I : Mem) : Cm.z.at_ I (.slice none 0 0) (.slice none 0 0) (.slice none 0 0) (.slice none 0 0) (.slice none 0 0) := ⟨i64z, i64z, i64z, i64z, i64z, i64z, i64z, LsAt.nil _ _, Atr.z_at I, Sg.z_ok, Pt.z_ok⟩
theorem Cm.z_rep (I : Mem) : Cm.rep I Cm.z (Cm.z.cs (.slice none 0 0) (.slice none 0 0) (.slice none 0 0) (.slice none 0 0) (.slice none 0 0)) := ⟨_, _, _, _, _, rfl, Cm.z_at I⟩
theorem Cm.id_rep (I : Mem) {k i : Int} (hk : I64 k) (hi : I64 i) : Cm.rep I { Cm.z with kind := k, id := i } (Cm.cs { Cm.z with kind := k, id := i } (.slice none 0 0) (.slice none 0 0) (.slice none 0 0) (.slice none 0 0) (.slice none 0 0)) := ⟨_, _, _, _, _, rfl, hk, hi, i64z, i64z, i64z, i64z, i64z, LsAt.nil _ _, Atr.z_at I, Sg.z_ok, Pt.z_ok⟩
theorem AtRep.up {I : Mem} {at_ : Int → Option Atr} {f : Int → Option Value} (h : AtRep I at_ f) {a : Atr} {v : Value} (ha : AtrV a v I) (j : Int) : AtRep I (upAt at_ j a) (Sl.put f j v) := fun i => by
 rw [upAt, Sl.put]
 by_cases hi : i = j
 ·rw [if_pos hi, if_pos hi]
  exact .inr ⟨a, v, rfl, rfl, ha⟩
 ·rw [if_neg hi, if_neg hi]
  exact h i
theorem lim_up {at_ : Int → Option Atr} (h : ∀ i a, at_ i = some a → a.lim) {b : Atr} (hb : b.lim) (j : Int) : ∀ i a, upAt at_ j b i = some a → a.lim := fun i a ha => by
 rw [upAt] at ha
 split at ha
 ·cases ha; exact hb
 ·exact h i a ha
def UpdF (I : Mem) (f : Int → Option Value) (I' : Mem) (f' : Int → Option Value) : Prop := ∀ i v, f' i = some v → f i = some v ∨ ∃ a, AtrN a I v I'
theorem UpdF.refl (I I' : Mem) (f : Int → Option Value) : UpdF I f I' f := fun _ _ h => .inl h
theorem UpdF.mono {I I1 I2 : Mem} {f g : Int → Option Value} (h : UpdF I f I1 g) (hI : I1.le I2) : UpdF I f I2 g := fun i v hv => (h i v hv).imp id fun ⟨a, ha⟩ => ⟨a, ha.mono hI⟩
theorem UpdF.del {I I' : Mem} {f g : Int → Option Value} (h : UpdF I f I' g) (j : Int) : UpdF I f I' (Sl.del g j) := fun i w hw => by
 rw [Sl.del] at hw
 split at hw
 ·cases hw
 ·exact h i w hw
theorem UpdF.put {I I' : Mem} {f g : Int → Option Value} {a : Atr} {v : Value} (h : UpdF I f I' g) (ha : AtrN a I v I') (j : Int) : UpdF I f I' (Sl.put g j v) := fun i w hw => by
 rw [Sl.put] at hw
 split at hw
 ·cases hw; exact .inr ⟨a, ha⟩
 ·exact h i w hw
end Go.Dc
namespace Go.Proofs.YtggcpoleklcmkaaGreatDoor
open Go.Sl Go.Ls Go.Tr Go.Dc
attribute [local irreducible] WC WL WX WK WA WAK Val Ctr RunRes ResIs Rd At sl box pt Exit.then Exit.inBlock bodyPost Code.wp wpList
def ApplyR (q : Dr × Cm × Int) (D : Dm) : Value → Mem → List HP → Prop := fun v I' L' => ∃ (D' : Dm) (bcs : List Value), v = .tuple #[.agg bcs.toArray, vi q.2.2] ∧ Cm.rep I' q.2.1 bcs ∧ D'.b = D.b ∧ L' = D'.hp ∧ DAbs I' D' q.1
def ApplyN (q : Dr × Cm × Int) (D : Dm) (I : Mem) : Value → Mem → List HP → Prop := fun v I' L' => ∃ (D' : Dm) (bcs : List Value), v = .tuple #[.agg bcs.toArray, vi q.2.2] ∧ Cm.rep I' q.2.1 bcs ∧ D'.b = D.b ∧ L' = D'.hp ∧ DAbs I' D' q.1 ∧ UpdF I D.f I' D'.f
theorem dWrap (D : Dm) (d : Dr) (c : Cm) (e t u dd q : Value) (I : Mem) (hN : NeedAt I) (hD : DAbs I D d) (hc : c.at_ I e t u dd q) : Ctr Tryz.prog 69 [ptr D.b, .agg (c.cs e t u dd q).toArray] I D.hp (ApplyN (d.wrap c) D I) := by
 have hca := hc.atr
 obtain ⟨a0, c0, a1, c1, a2, c2, a3, c3, a4, c4, rfl, rfl, rfl, rfl, rfl⟩ := hc.sl
 refine Ctr.intro Tryz.func69 rfl rfl rfl fun E F => ?_
 refine jS (WL.boxA rfl rfl (fun _ => ?_))
 refine jW ?_
 refine WL.alloc rfl (fun _ => ?_)
 refine jW ?_
 refine jf rfl (jM (jB (jS (jm (jn rfl) (jm (jt 8 rfl rfl rfl) (WL.callS rfl rfl (atr_ctr c.atr true _ _ _ _ _ hN hca) rfl ?_))))))
 rintro _ rfl
 by_cases h1 : c.atr.check true = 0
 case neg =>
  rw [show d.wrap c = (d, Cm.z, c.atr.check true) by rw [Dr.wrap, if_pos h1]]
  refine jf rfl (jN (ja rfl (jJ rfl rfl (jM (jF (jS (jm (Val.build0) ?_)))))))
  refine ja rfl (WL.stA 9 rfl rfl rfl rfl ?_)
  refine jf rfl (jM (jR (jU ?_)))
  exact jP [0, 0, 0, 0, 0, 0, 0] (jr2 rfl (jcL 9 rfl rfl rfl) (jtI rfl)) ⟨D, _, rfl, Cm.z_rep _, rfl, rfl, hD, UpdF.refl _ _ _⟩
 have hw : d.wrap c = if (Nd.wrap d.top c.id c.parent c.index c.count).2 ≠ 0 then (d, Cm.z, (Nd.wrap d.top c.id c.parent c.index c.count).2) else (⟨(Nd.wrap d.top c.id c.parent c.index c.count).1, upAt d.at_ c.id c.atr, d.segs⟩, { Cm.z with kind := 5, id := c.id }, 0) := by
  rw [Dr.wrap, if_neg (fun e => e h1)]
 rw [hw]
 clear hw
 refine jf rfl (jN (ja rfl (jz rfl rfl (jM (jE (jV (jA (jB (jB (j8 999 [1, 7] rfl (jT 0 rfl (Val.moveP rfl) (jT 1 rfl (jr rfl) (jT 2 rfl (jn rfl) (jT 3 rfl (jp 0 rfl rfl rfl) (jT 4 rfl (jn rfl) (jT 5 rfl (jp 1 rfl rfl rfl) (jT 6 rfl (jn rfl) (jT 7 rfl (jp 1 rfl rfl rfl) (jT 8 rfl (jn rfl) (jT 9 rfl (jp 1 rfl rfl rfl) (jT 10 rfl (jn rfl) (jT 11 rfl (jp 1 rfl rfl rfl) (j5 12 rfl (WL.callP [3, 3, 3, 3, 3] rfl rfl (tWrap D.A d.top hD.abs c.id c.parent c.index c.count _ hc.id hc.count) rfl ?_))))))))))))))))))))))))
 rintro _ I1 _ hI1 ⟨rfl, B, hb, rfl, hB⟩
 refine jW ?_
 refine jC (j9 [1, 2] (hI1) rfl (jT 13 rfl (Val.assignI rfl) (j6 ?_)))
 rw [← hb]
 by_cases h2 : (Nd.wrap d.top c.id c.parent c.index c.count).2 = 0
 case neg =>
  rw [if_pos h2]
  refine jK (ja rfl (jJ rfl rfl (jM (jF (jS (jm (Val.build0) ?_))))))
  refine ja rfl (WL.stA 4 rfl rfl rfl rfl ?_)
  refine jf rfl (jM (jR (jU ?_)))
  refine jP [0, 0, 2, 2, 2, 2, 2] (jr2 rfl (jcL 4 rfl rfl rfl) (jtI rfl)) ?_
  rw [Nd.wrap_err h2] at hB
  exact ⟨{ D with A := B }, _, rfl, Cm.z_rep _, rfl, rfl, ⟨hB, hD.rep.mono hI1, hD.segs, hD.dom, hD.lim⟩, UpdF.refl _ _ _⟩
 rw [if_neg (fun e => e h2)]
 refine jK (ja rfl (jz rfl rfl (jM (jE (jV (jA (jB ?_)))))))
 have hlim := Atr.check_lim h1
 refine j8 999 [1, 2] rfl (jT 0 rfl (Val.moveP rfl) (jT 1 rfl (jr rfl) (jT 2 rfl (jn rfl) (jT 3 rfl (jp 0 rfl rfl rfl) (jT 4 rfl (jn rfl) (jT 5 rfl (jp 1 rfl rfl rfl) (jT 6 rfl (jn rfl) (jT 7 rfl (jt 1 rfl rfl rfl) (j5 8 rfl (WL.callP [] rfl rfl (copiedN_ctr c.atr _ _ _ _ _ (hca.mono hI1) hlim) rfl ?_))))))))))
 rintro _ I2 _ hI2 ⟨rfl, t1, u1, d1, q1, rfl, ha1, hnw⟩
 refine jW ?_
 refine jC (j9 [1, 2] (hI2) rfl (j5 9 rfl (WL.mapUpdate 2 rfl rfl rfl ?_)))
 refine WL.nSet ?_
 refine jC (j9 [1, 2] (hI2) rfl (j6 (jK (jm (jn rfl) (jm (jp 3 rfl rfl rfl) (jm (Val.build (cs := (Cm.cs { Cm.z with kind := 5, id := c.id } (.slice none 0 0) (.slice none 0 0) (.slice none 0 0) (.slice none 0 0) (.slice none 0 0))) rfl) ?_))))))
 refine WL.stA 4 rfl rfl rfl rfl ?_
 refine jf rfl (jM (jR ?_))
 have hJ := hI1.trans hI2
 exact jP [0, 0, 2, 2, 2, 2, 2] (jr2 rfl (jcL 4 rfl rfl rfl) (jtI rfl)) ⟨{ D with A := B, f := Sl.put D.f c.id _, cnt := _ }, _, rfl, Cm.id_rep _ ⟨by decide, by decide⟩ hc.id, rfl, rfl, ⟨hB, (hD.rep.mono hJ).up ⟨_, _, _, _, rfl, ha1⟩ _, hD.segs, dom_wrap hD.dom (mem0 hD.abs) hB.od (Nd.count_wrap hD.abs.od h2), lim_up hD.lim hlim _⟩, (UpdF.refl _ _ _).put (AtrN.less ⟨_, _, _, _, rfl, ha1, hnw⟩ hI1) _⟩
end Go.Proofs.YtggcpoleklcmkaaGreatDoor

namespace Go.Dc
open Go.Sl Go.Ls Go.Tr
theorem firstWrong_at : ∀ (l : List Ent) (x : Ent) (r : List Ent), (∀ y ∈ l, y.atr.check y.grp = 0) → x.atr.check x.grp ≠ 0 → firstWrong (l ++ x :: r) = x.atr.check x.grp
 | [], x, r, _, h => by rw [List.nil_append, firstWrong, if_pos h]
 | y :: l, x, r, hl, h => by
  rw [List.cons_append, firstWrong, if_neg (fun e => e (hl y (List.mem_cons_self ..)))]
  exact firstWrong_at l x r (fun z hz => hl z (List.mem_cons_of_mem _ hz)) h
theorem firstWrong_none : ∀ (l : List Ent), (∀ y ∈ l, y.atr.check y.grp = 0) → firstWrong l = 0
 | [], _ => rfl
 | y :: l, h => by
  rw [firstWrong, if_neg (fun e => e (h y (List.mem_cons_self ..)))]
  exact firstWrong_none l fun z hz => h z (List.mem_cons_of_mem _ hz)
theorem segsOf_snoc (l : List Ent) (x : Ent) : segsOf (l ++ [x]) = segsOf l + x.atr.path.length := by
 have h : ∀ a b : List Int, isum (a ++ b) = isum a + isum b := fun a b => by
  induction a with
  | nil => simp [isum]
  | cons y a ih => rw [List.cons_append, isum, isum, ih]; omega
 rw [segsOf, segsOf, List.map_append, h]
 simp [isum]
theorem putAll_snoc : ∀ (l : List Ent) (f : Int → Option Atr) (x : Ent), putAll f (l ++ [x]) = upAt (putAll f l) x.id x.atr
 | [], f, x => rfl
 | y :: l, f, x => by rw [List.cons_append, putAll, putAll, putAll_snoc l]
end Go.Dc
namespace Go.Proofs.YtggcpoleklcmkaaGreatDoor
open Go.Sl Go.Ls Go.Tr Go.Dc
attribute [local irreducible] WC WL WX WK WA WAK Val Ctr RunRes ResIs Rd At sl box pt Exit.then Exit.inBlock bodyPost Code.wp wpList
theorem dAdd (D : Dm) (d : Dr) (c : Cm) (e t u dd q : Value) (I : Mem) (hN : NeedAt I) (hD : DAbs I D d) (hc : c.at_ I e t u dd q) (hle : c.ents.length ≤ 100000) (hs0 : 0 ≤ d.segs) (hs1 : d.segs + segsOf c.ents ≤ 1048576) :
  Ctr Tryz.prog 66 [ptr D.b, .agg (c.cs e t u dd q).toArray] I D.hp (ApplyN (d.add c) D I) := by
 have hce := hc.ents
 have hds := hD.segs
 obtain ⟨a0, c0, a1, c1, a2, c2, a3, c3, a4, c4, rfl, rfl, rfl, rfl, rfl⟩ := hc.sl
 refine Ctr.intro Tryz.func66 rfl rfl rfl fun E F => ?_
 refine jS (WL.boxA rfl rfl (fun _ => ?_))
 refine jW ?_
 refine WL.alloc rfl (fun _ => ?_)
 refine jW ?_
 refine jf rfl (jM (jB (jS (jm (jn rfl) (jm (jp 8 rfl rfl rfl) ?_)))))
 rename_i g3 g4
 refine WL.callE rfl rfl (whole_ctr c.ents _ _ hce (by omega)) rfl (fun h1 => ?_) (fun h1 => ?_)
 case refine_2 =>
  rw [show d.add c = (d, Cm.z, 20) by rw [Dr.add, if_pos h1]]
  refine jl rfl (jM (jF (jS (jm (Val.build0) ?_))))
  refine WL.stA 9 rfl rfl rfl rfl ?_
  refine jf rfl (jM (jR (jU ?_)))
  exact jP [0, 0, 0, 0, 0, 0, 0] (jr2 rfl (jcL 9 rfl rfl rfl) (jtI rfl)) ⟨D, _, rfl, Cm.z_rep _, rfl, rfl, hD, UpdF.refl _ _ _⟩
 have hw : d.add c = if firstWrong c.ents ≠ 0 then (d, Cm.z, firstWrong c.ents)
   else if (Nd.add d.top c.parent c.index (nodeOf c.ents)).2 ≠ 0 then (d, Cm.z, (Nd.add d.top c.parent c.index (nodeOf c.ents)).2)
   else (⟨(Nd.add d.top c.parent c.index (nodeOf c.ents)).1, putAll d.at_ c.ents, d.segs + segsOf c.ents⟩, { Cm.z with kind := 2, id := (nodeOf c.ents).id }, 0) := by
  rw [Dr.add, if_neg (fun e => e h1), if_neg (show ¬ mostSegs - d.segs < segsOf c.ents by unfold mostSegs; omega)]
 rw [hw]
 clear hw
 refine jl rfl (jM (jE (jV (jK (jf rfl (jM (jB (jS (jm (jn rfl) (jm (jp 8 rfl rfl rfl) (jm (jo rfl) (ja rfl (jM (WC.block (WC.conv (fun w h => Sat.fold D.A.hp (h.sub [3, 3, 3, 3, 3, 0, 0, 0, 0, 0] rfl)) ?_)))))))))))))))
 refine WC.loop (fun n ρ' I' L' => ∃ k : Nat, n = c.ents.length - k ∧ k ≤ c.ents.length ∧ I' = I ∧ ρ' 0 = ptr D.b ∧ ρ' 3 = ptr g3 ∧ ρ' 4 = ptr g4 ∧ ρ' 6 = vi (segsOf (c.ents.take k)) ∧ ρ' 23 = .slice a0 c.ents.length c0 ∧ ρ' 24 = vi c.ents.length ∧ ρ' 25 = vi k ∧
   L' = [sts D.A.hp, F, docBox D.b D.A.b D.mb D.segs, mp D.mb D.f D.cnt, box g3 59 (c.cs (.slice a0 c.ents.length c0) (.slice a1 c.atr.sty.fill.stops.length c1) (.slice a2 c.atr.sty.pen.stops.length c2) (.slice a3 c.atr.sty.dash.length c3) (.slice a4 c.atr.path.length c4)), box g4 59 (Cm.z.cs (.slice none 0 0) (.slice none 0 0) (.slice none 0 0) (.slice none 0 0) (.slice none 0 0))] ∧
   (∀ y ∈ c.ents.take k, y.atr.check y.grp = 0) ∧ 0 ≤ segsOf (c.ents.take k) ∧ segsOf (c.ents.take k) ≤ 4096 * (k : Int))
  c.ents.length ⟨0, rfl, by omega, rfl, rfl, rfl, rfl, rfl, rfl, rfl, rfl, rfl, fun y hy => by simp at hy, by simp [segsOf, isum], by simp [segsOf, isum]⟩ ?_
 rintro n ρ' I0 L' ⟨k, rfl, hk, rfl, r0, r3, r4, r6, r23, r24, r25, rfl, hall, s0, s1⟩
 refine ju7 r25 r24 r23 r6 r4 r3 r0 ?_
 by_cases hkn : k < c.ents.length
 ·obtain ⟨b, off, cap', cs, he, ⟨t1, t2, t3, t4, rfl, hi⟩, hA⟩ := hce.get k hkn
  cases he
  have hsplit : c.ents = c.ents.take k ++ c.ents[k] :: c.ents.drop (k + 1) := by rw [← List.drop_eq_getElem_cons hkn, List.take_append_drop]
  have htk : c.ents.take (k + 1) = c.ents.take k ++ [c.ents[k]] := List.take_succ_eq_append_getElem hkn
  have hia := hi.atr
  obtain ⟨b1, d1, b2, d2, b3, d3, b4, d4, rfl, rfl, rfl, rfl⟩ := hi.sl
  generalize c.ents[k] = x at *
  refine jS (jy rfl rfl (jM (jB (jF (jV (jA (jB (WC.block (jS (jm (jZ rfl rfl) (jm (Val.loadI rfl (by assumption) rfl) ?_)))))))))))
  refine WL.alloc rfl (fun _ => ?_)
  refine jW ?_
  refine WL.stA 6 rfl rfl rfl rfl ?_
  refine jM (jB (jS (jm (jn rfl) (jm (jt 6 rfl rfl rfl) (jm (jn rfl) (jm (jp 6 rfl rfl rfl) (WL.callS rfl rfl (atr_ctr x.atr x.grp _ _ _ _ _ hN hia) rfl ?_)))))))
  rintro _ rfl
  by_cases h2 : x.atr.check x.grp = 0
  ·have hpl := pathCheck_lim (Atr.check_ok h2).2.2
   have hsn := segsOf_snoc (c.ents.take k) x
   rw [← htk] at hsn
   have hall' : ∀ y ∈ c.ents.take (k + 1), y.atr.check y.grp = 0 := by
    rw [htk]
    intro y hy
    rcases List.mem_append.1 hy with hy | hy
    ·exact hall y hy
    ·rw [List.mem_singleton.1 hy]; exact h2
   exact jf rfl (jN (ja rfl (jz rfl rfl (jM (jE (jV (jA (jD (ja rfl (jm (jn rfl) (jm (jn rfl) (jm (jp 6 rfl rfl rfl) (jm (jo rfl) (jX rfl rfl (jf rfl (jC (WX.inNormal (jA (jD (jX rfl rfl (ja rfl (jC (WX.conv (fun w h => h.sub [0, 0, 0, 0, 0, 0] rfl) (WX.thenK (WK.round (c.ents.length - (k + 1)) (by omega) ⟨k + 1, rfl, by omega, rfl, rfl, rfl, rfl, by rw [hsn]; rfl, rfl, rfl, rfl, rfl, hall', by omega, by omega⟩)))))))))))))))))))))))))
  ·have hfw : firstWrong c.ents = x.atr.check x.grp := by rw [hsplit]; exact firstWrong_at _ _ _ hall h2
   rw [hfw, if_pos h2]
   refine jf rfl (jN (ja rfl (jJ rfl rfl (jM (jF (jS (jm (Val.build0) ?_)))))))
   refine ja rfl (WL.stA 5 rfl rfl rfl rfl ?_)
   refine jf rfl (jM (jR (jU (WX.inRet (jU (jU (WX.inRet (jU (WX.conv (fun w h => (Sat.unfold h).sub [5, 5, 5, 0, 0, 0, 0, 0, 1] rfl) ?_)))))))))
   exact jP [0, 0, 0, 0, 0, 0, 0] (jr2 rfl (jcL 8 rfl rfl rfl) (jtI rfl)) ⟨D, _, rfl, Cm.z_rep _, rfl, rfl, hD, UpdF.refl _ _ _⟩
 have hke : k = c.ents.length := by omega
 subst hke
 rw [List.take_length] at hall s0 s1 ⊢
 rw [if_neg (fun e => e (firstWrong_none _ hall))]
 obtain ⟨nd, hnd⟩ := (Whole_iff c.ents).1 h1
 rw [nodeOf_eq hnd]
 have hndz := Tk_size hnd
 have hndo : c.ents.map Ent.id = nd.order := by rw [Tk_order hnd, List.map_nil, List.append_nil]
 refine jS (jx rfl rfl (jM (jB (jE (WC.exit (WX.thenExit (WX.thenExit (WX.inHit (jK (jm (jn rfl) (jm (jp 4 rfl rfl rfl) (WL.callP [] rfl rfl (node_ctr _ c.ents (Nat.le_refl _) nd [] _ _ hce (by omega) hnd) rfl ?_))))))))))))
 rintro _ I1 _ hI1 ⟨rfl, kv, rv, rfl, hkv, hid, _⟩
 have hkv0 := hkv
 obtain ⟨ka, kc, rfl⟩ := hkv.sl
 refine jW ?_
 refine je rfl (jm (Val.extractA rfl rfl) (jm (Val.extract rfl rfl) ?_))
 refine WL.alloc rfl (fun _ => ?_)
 refine jW ?_
 refine WL.stA 6 rfl rfl rfl rfl ?_
 refine WL.val Val.assign rfl ?_
 refine jM (jB (jS (ja rfl (jd rfl (jm (jr rfl) (jm (jn rfl) (jm (jp 2 rfl rfl rfl) (jm (Val.sub rfl rfl (wrap_i64 (by omega) (by omega))) ?_))))))))
 refine jL rfl rfl (jM (jE (jV (jA (jB (jB ?_))))))
 rename_i g10
 refine WC.conv (fun w h => (Sat.unfold h).sub [5, 5, 5, 5, 5, 5, 0, 0, 0, 0, 0] rfl) ?_
 refine j8 999 [1, 2, 3] rfl (jT 0 rfl (Val.moveP rfl) (jT 1 rfl (jr rfl) (jT 2 rfl (jn rfl) (jT 3 rfl (jp 0 rfl rfl rfl) (jT 4 rfl (jn rfl) (jT 5 rfl (jp 1 rfl rfl rfl) (jT 6 rfl (jn rfl) (jT 7 rfl (jp 1 rfl rfl rfl) (jT 8 rfl (jt 2 rfl rfl rfl) (j5 9 rfl (WL.callP [6, 6, 6, 6, 6] rfl rfl (tAdd D.A d.top hD.abs nd _ c.parent c.index _ (by omega) hid hkv0) rfl ?_)))))))))))
 rintro _ I2 _ hI2 ⟨rfl, B, hb, rfl, hB⟩
 refine jW ?_
 refine jC (j9 [1, 2, 3] (hI2) rfl (jT 10 rfl (Val.assignI rfl) (j6 ?_)))
 rw [← hb]
 have hJ2 := hI1.trans hI2
 by_cases h3 : (Nd.add d.top c.parent c.index nd).2 = 0
 case neg =>
  rw [if_pos h3]
  refine jK (ja rfl (jJ rfl rfl (jM (jF (jS (jm (Val.build0) ?_))))))
  refine ja rfl (WL.stA 4 rfl rfl rfl rfl ?_)
  refine jf rfl (jM (jR (jU ?_)))
  refine jP [0, 0, 3, 3, 3, 3, 3] (jr2 rfl (jcL 4 rfl rfl rfl) (jtI rfl)) ?_
  rw [Nd.add_err h3] at hB
  exact ⟨{ D with A := B }, _, rfl, Cm.z_rep _, rfl, rfl, ⟨hB, hD.rep.mono hJ2, hD.segs, hD.dom, hD.lim⟩, UpdF.refl _ _ _⟩
 rw [if_neg (fun e => e h3)]
 refine jK (ja rfl (jz rfl rfl (jM (jE (jV (jA (jB (jS (jm (jn rfl) (jm (jp 3 rfl rfl rfl) (jm (jo rfl) (ja rfl (jM (WC.block (WC.conv (fun w h => Sat.fold B.hp (h.sub [6, 6, 6, 6, 6, 0, 0, 0, 0, 0, 0] rfl)) ?_)))))))))))))))
 refine WC.loop (fun n ρ' I' L' => ∃ (k : Nat) (f' : Int → Option Value) (cnt' : Nat), n = c.ents.length - k ∧ k ≤ c.ents.length ∧ I2.le I' ∧ ρ' 0 = ptr D.b ∧ ρ' 4 = ptr g4 ∧ ρ' 6 = vi (segsOf c.ents) ∧ ρ' 10 = ptr g10 ∧ ρ' 90 = .slice a0 c.ents.length c0 ∧ ρ' 91 = vi c.ents.length ∧ ρ' 92 = vi k ∧
   L' = [sts B.hp, F, docBox D.b B.b D.mb D.segs, mp D.mb f' cnt', box g3 59 (c.cs (.slice a0 c.ents.length c0) (.slice a1 c.atr.sty.fill.stops.length c1) (.slice a2 c.atr.sty.pen.stops.length c2) (.slice a3 c.atr.sty.dash.length c3) (.slice a4 c.atr.path.length c4)), box g4 59 (Cm.z.cs (.slice none 0 0) (.slice none 0 0) (.slice none 0 0) (.slice none 0 0) (.slice none 0 0)), box g10 72 [vi nd.id, .bool nd.grp, .slice ka nd.kids.length kc]] ∧ AtRep I' (putAll d.at_ (c.ents.take k)) f' ∧ UpdF I0 D.f I' f')
  c.ents.length ⟨0, D.f, D.cnt, rfl, by omega, Mem.le.refl _, rfl, rfl, rfl, rfl, rfl, rfl, rfl, rfl, hD.rep.mono hJ2, UpdF.refl _ _ _⟩ ?_
 rintro n ρ' I3 L' ⟨k, f', cnt', rfl, hk, hI3, r0, r4, r6, r10, r90, r91, r92, rfl, hrep, hup⟩
 refine ju7 r92 r91 r90 r10 r6 r4 r0 ?_
 have hJ3 := hJ2.trans hI3
 by_cases hkn2 : k < c.ents.length
 ·obtain ⟨b, off, cap', cs, he, ⟨t1, t2, t3, t4, rfl, hi⟩, hA⟩ := (hce.mono hJ3).get k hkn2
  cases he
  have hpu := putAll_snoc (c.ents.take k) d.at_ c.ents[k]
  rw [← List.take_succ_eq_append_getElem hkn2] at hpu
  have hxl := Atr.check_lim (hall _ (List.getElem_mem hkn2))
  have hia := hi.atr
  obtain ⟨b1, d1, b2, d2, b3, d3, b4, d4, rfl, rfl, rfl, rfl⟩ := hi.sl
  generalize c.ents[k] = x at *
  refine jS (jy rfl rfl (jM (jB (jF (jV (jA (jB (WC.block (jS (jm (jZ rfl rfl) (jm (Val.loadI rfl (by assumption) rfl) ?_)))))))))))
  refine WL.alloc rfl (fun _ => ?_)
  refine jW ?_
  refine WL.stA 7 rfl rfl rfl rfl ?_
  refine jM (j8 999 [2, 6] rfl (jT 0 rfl (Val.moveP rfl) (jT 1 rfl (jr rfl) (jT 2 rfl (jn rfl) (jT 3 rfl (jp 0 rfl rfl rfl) (jT 4 rfl (jn rfl) (jT 5 rfl (jp 1 rfl rfl rfl) (jT 6 rfl (jn rfl) (jT 7 rfl (jt 1 rfl rfl rfl) (j5 8 rfl (WL.callP [] rfl rfl (copiedN_ctr x.atr _ _ _ _ _ hia hxl) rfl ?_)))))))))))
  rintro _ I4 _ hI4 ⟨rfl, t1, u1, d1, q1, rfl, ha1, hnw⟩
  refine jW ?_
  refine jC (j9 [2, 6] (hI4) rfl (j5 9 rfl (WL.mapUpdate 3 rfl rfl rfl ?_)))
  refine WL.nSet ?_
  refine jC (j9 [2, 6] (hI4) rfl (j6 (WX.inNormal (jA (jD (jX rfl rfl (ja rfl (jC (WX.conv (fun w h => h.sub [0, 0, 0, 0, 0, 0, 0] rfl) ?_)))))))))
  refine WX.thenK (WK.round (c.ents.length - (k + 1)) (by omega) ⟨k + 1, _, _, rfl, by omega, hI3.trans hI4, rfl, rfl, rfl, rfl, rfl, rfl, rfl, rfl, ?_, (hup.mono hI4).put (AtrN.less ⟨_, _, _, _, rfl, ha1, hnw⟩ hJ3) _⟩)
  rw [hpu]
  exact (hrep.mono hI4).up ⟨_, _, _, _, rfl, ha1⟩ _
 ·have hke2 : k = c.ents.length := by omega
  subst hke2
  rw [List.take_length] at hrep
  refine jS (jx rfl rfl (jM (jB (jE (WC.exit (WX.thenExit (WX.thenExit (WX.inHit (jK (jd rfl (jm (jr rfl) (jm (jn rfl) (jm (jp 2 rfl rfl rfl) (ja rfl (jX rfl rfl (jm (jr rfl) (jm (jn rfl) (WL.stI 2 rfl rfl rfl rfl ?_))))))))))))))))))
  refine jN (jm (jn rfl) (jm (jp 6 rfl rfl rfl) (jm (Val.build (cs := (Cm.cs { Cm.z with kind := 2, id := nd.id } (.slice none 0 0) (.slice none 0 0) (.slice none 0 0) (.slice none 0 0) (.slice none 0 0))) rfl) ?_)))
  refine WL.stA 5 rfl rfl rfl rfl ?_
  refine jf rfl (jM (jR (WX.conv (fun w h => (Sat.unfold h).sub [5, 5, 5, 0, 0, 0, 0, 0, 1] rfl) ?_)))
  refine jP [0, 0, 0, 0, 0, 0, 0] (jr2 rfl (jcL 8 rfl rfl rfl) (jtI rfl)) ?_
  refine ⟨{ D with A := B, f := f', cnt := cnt', segs := D.segs + segsOf c.ents }, _, rfl, Cm.id_rep _ ⟨by decide, by decide⟩ hid, rfl, rfl, ⟨hB, hrep, by rw [hds], dom_add hD.dom (mem0 hD.abs) hB.od hndo (Nd.count_add hD.abs.od h3), fun i a ha => ?_⟩, hup⟩
  rcases putAll_of _ _ _ _ ha with h | ⟨x, hx, _, rfl⟩
  ·exact hD.lim i a h
  ·exact Atr.check_lim (hall x hx)
instance : PtK Tryz.prog 49 := ⟨by kernel_rfl⟩
theorem dApplyAdd (D : Dm) (d : Dr) (c : Cm) (e t u dd q : Value) (I : Mem) (hN : NeedAt I) (hD : DAbs I D d) (hc : c.at_ I e t u dd q) (hk : c.kind = 1) (hle : c.ents.length ≤ 100000) (hs0 : 0 ≤ d.segs) (hs1 : d.segs + segsOf c.ents ≤ 1048576) :
  Ctr Tryz.prog 24 [ptr D.b, .agg (c.cs e t u dd q).toArray] I D.hp (ApplyR (d.add c) D) := by
 have hc0 := hc
 obtain ⟨a0, c0, a1, c1, a2, c2, a3, c3, a4, c4, rfl, rfl, rfl, rfl, rfl⟩ := hc.sl
 refine Ctr.intro Tryz.func24 rfl rfl rfl fun E F => ?_
 refine jS (WL.boxA rfl rfl (fun _ => ?_))
 refine jW ?_
 refine WL.alloc rfl (fun _ => ?_)
 refine jW ?_
 refine jf rfl (jM (jB (jS (jm (jn rfl) (jm (jp 8 rfl rfl rfl) (jM (WC.block (jS (jw rfl rfl (jg rfl (jM (jF (jS (jd rfl (jm (jt 8 rfl rfl rfl) (WL.callP [1, 1, 1, 1, 1, 1, 1] rfl rfl (dAdd D d c _ _ _ _ _ _ hN hD hc0 hle hs0 hs1) rfl ?_))))))))))))))))
 rintro _ I1 _ hI1 ⟨D', bcs, rfl, ⟨e', t', u', d', q', rfl, hbk⟩, hb, rfl, hD'⟩
 have hbk0 := hbk
 obtain ⟨_, _, _, _, _, _, _, _, _, _, rfl, rfl, rfl, rfl, rfl⟩ := hbk.sl
 refine jW ?_
 refine jm (Val.extractA rfl rfl) (jm (jq rfl rfl) (WL.stA 2 rfl rfl rfl rfl ?_))
 refine jf rfl (jM (jR (WX.inRet (jU ?_))))
 exact jP [2, 2, 2, 2, 2, 2, 2] (jr2 rfl (jcL 2 rfl rfl rfl) (jtI rfl)) ⟨D', _, rfl, ⟨_, _, _, _, _, rfl, hbk0⟩, hb, rfl, hD'.1⟩
theorem dApplyWrap (D : Dm) (d : Dr) (c : Cm) (e t u dd q : Value) (I : Mem) (hN : NeedAt I) (hD : DAbs I D d) (hc : c.at_ I e t u dd q) (hk : c.kind = 4) :
  Ctr Tryz.prog 24 [ptr D.b, .agg (c.cs e t u dd q).toArray] I D.hp (ApplyR (d.wrap c) D) := by
 have hc0 := hc
 obtain ⟨a0, c0, a1, c1, a2, c2, a3, c3, a4, c4, rfl, rfl, rfl, rfl, rfl⟩ := hc.sl
 refine Ctr.intro Tryz.func24 rfl rfl rfl fun E F => ?_
 refine jS (WL.boxA rfl rfl (fun _ => ?_))
 refine jW ?_
 refine WL.alloc rfl (fun _ => ?_)
 refine jW ?_
 refine jf rfl (jM (jB (jS (jm (jn rfl) (jm (jp 8 rfl rfl rfl) (jM (WC.block (jCf rfl rfl (jCf rfl rfl (jCf rfl rfl (jS (jw rfl rfl (jg rfl (jM (jF (jS (jd rfl (jm (jt 8 rfl rfl rfl) (WL.callP [1, 1, 1, 1, 1, 1, 1] rfl rfl (dWrap D d c _ _ _ _ _ _ hN hD hc0) rfl ?_)))))))))))))))))))
 rintro _ I1 _ hI1 ⟨D', bcs, rfl, ⟨e', t', u', d', q', rfl, hbk⟩, hb, rfl, hD'⟩
 have hbk0 := hbk
 obtain ⟨_, _, _, _, _, _, _, _, _, _, rfl, rfl, rfl, rfl, rfl⟩ := hbk.sl
 refine jW ?_
 refine jm (Val.extractA rfl rfl) (jm (jq rfl rfl) (WL.stA 2 rfl rfl rfl rfl ?_))
 refine jf rfl (jM (jR (WX.inRet (jU ?_))))
 exact jP [2, 2, 2, 2, 2, 2, 2] (jr2 rfl (jcL 2 rfl rfl rfl) (jtI rfl)) ⟨D', _, rfl, ⟨_, _, _, _, _, rfl, hbk0⟩, hb, rfl, hD'.1⟩
def awE : Ent := ⟨1, false, 0, plainAtr⟩
def awC : Cm := { Cm.z with kind := 1, ents := [awE] }
def awW : Cm := { Cm.z with kind := 4, id := 9, count := 1, atr := plainAtr }
def aw1 : Dr × Cm × Int := Dr.new.add awC
def aw2 : Dr × Cm × Int := aw1.1.wrap awW
theorem aw1_err : aw1.2.2 = 0 := by kernel_rfl
theorem aw2_err : aw2.2.2 = 0 := by kernel_rfl
theorem aw2_kind : aw2.2.1.kind = 5 := by kernel_rfl
theorem aw2_id : aw2.2.1.id = 9 := by kernel_rfl
theorem aw2_len : aw2.1.entries.length = 2 := by kernel_rfl
theorem aw2_0 : (aw2.1.entries.head?.map fun x => (x.id, x.kids)) = some (9, 1) := by kernel_rfl
theorem plain_at (I : Mem) : plainAtr.at_ I (.slice none 0 0) (.slice none 0 0) (.slice none 0 0) (.slice none 0 0) := ⟨⟨⟨by decide, by decide⟩, i64z, i64z, ⟨by decide, by decide⟩, i64z, i64z⟩, ⟨Pnt.z_at I, Pnt.z_at I, ⟨by decide, by decide⟩, i64z, i64z, LsAt.nil _ _, i64z, ⟨by decide, by decide⟩, i64z⟩, LsAt.nil _ _⟩
theorem new_abs (I : Mem) (b mb cg db tb : Nat) : DAbs I { b := db, A := Ar.fresh b mb cg, mb := tb, f := fun _ => none, cnt := 0, segs := 0 } Dr.new := by
 refine ⟨Abs.fresh b mb cg, fun i => .inl ⟨rfl, rfl⟩, rfl, fun i => ⟨fun h => (by cases h), fun h => ?_⟩, fun i a h => (by cases h)⟩
 have h2 : i ∈ [0] := h.2
 exact absurd (List.mem_singleton.1 h2) h.1
theorem dAwake (I : Mem) (hN : NeedAt I) : Ctr Tryz.prog 15 [] I [] (KeepR [] fun v _ => v = .bool true) := by
 refine Ctr.intro Tryz.func15 rfl rfl rfl fun E F => ?_
 refine jS (jg rfl (jN (WL.callP [] rfl rfl (dNew _) rfl ?_)))
 rintro _ I1 _ _ ⟨rfl, b, tb, mb, cg, db, rfl, rfl⟩
 have hD0 := new_abs I1 b mb cg db tb
 generalize hDe : ({ b := db, A := Ar.fresh b mb cg, mb := tb, f := fun _ => none, cnt := 0, segs := 0 } : Dm) = D0 at hD0
 have hL0 : docBox db b tb 0 :: mp tb (fun _ => none) 0 :: (Ar.fresh b mb cg).hp = D0.hp := by rw [← hDe]; rfl
 have hb0 : db = D0.b := by rw [← hDe]
 rw [hL0, hb0]
 clear hL0 hb0 hDe
 refine jW ?_
 refine ji rfl (jM (jB (jS (jd rfl (jm (Val.eqlNilP rfl) ?_)))))
 refine jM (jE (jV (jK (jd rfl (WL.callS rfl rfl (plain_ctr _) rfl ?_)))))
 rintro _ rfl
 skip
 refine jm (Val.build (cs := (Ent.cs awE (.slice none 0 0) (.slice none 0 0) (.slice none 0 0) (.slice none 0 0))) rfl) ?_
 refine WL.buildSlice (by with_unfolding_all exact rfl) rfl (by with_unfolding_all exact rfl) rfl (fun _ => ?_)
 refine jW ?_
 rename_i g5
 refine WL.boxSl (e := 69) (sz := 37) (n := 1) 8 rfl rfl (by decide) ?_
 refine WL.freezeL (R := Ent.rep) (l := [awE]) 8 rfl ⟨[_], rfl, ⟨_, _, _, _, rfl, ⟨by decide, by decide⟩, i64z, plain_at _⟩, trivial⟩ fun I2 hI2 hv => ?_
 refine jm (Val.build (cs := (Cm.cs awC (.slice (some ⟨g5, 0, none⟩) 1 1) (.slice none 0 0) (.slice none 0 0) (.slice none 0 0) (.slice none 0 0))) rfl) ?_
 skip
 refine WL.callP [1, 1, 1, 1, 1, 1, 1] rfl rfl (dApplyAdd D0 Dr.new awC _ _ _ _ _ _ (hN.mono hI2) (hD0.mono hI2) ⟨⟨by decide, by decide⟩, i64z, i64z, i64z, i64z, i64z, i64z, hv, Atr.z_at _, Sg.z_ok, Pt.z_ok⟩ rfl (by decide) (by decide) (by decide)) rfl ?_
 rintro _ I3 _ hI3 ⟨D1, bcs, rfl, ⟨_, _, _, _, _, rfl, hbk⟩, hb1, rfl, hD1⟩
 obtain ⟨_, _, _, _, _, _, _, _, _, _, rfl, rfl, rfl, rfl, rfl⟩ := hbk.sl
 rw [show (Dr.new.add awC).2.2 = 0 from aw1_err]
 replace hD1 : DAbs I3 D1 aw1.1 := hD1
 clear hbk
 generalize (Dr.new.add awC).2.1 = bk1
 rw [← hb1]
 refine jW ?_
 refine je rfl (jm (Val.extractA rfl rfl) (jm (jq rfl rfl) (WL.alloc rfl (fun _ => ?_))))
 refine jW ?_
 refine WL.stA 8 rfl rfl rfl rfl ?_
 refine jf rfl (jN (jd rfl (WL.callS rfl rfl (plain_ctr _) rfl ?_)))
 rintro _ rfl
 skip
 refine jm (Val.build (cs := (Cm.cs awW (.slice none 0 0) (.slice none 0 0) (.slice none 0 0) (.slice none 0 0) (.slice none 0 0))) rfl) ?_
 skip
 have hN3 := (hN.mono hI2).mono hI3
 refine WL.callP [1, 1, 1, 1, 1, 1, 1] rfl rfl (dApplyWrap D1 aw1.1 awW _ _ _ _ _ _ hN3 hD1 ⟨⟨by decide, by decide⟩, ⟨by decide, by decide⟩, i64z, i64z, ⟨by decide, by decide⟩, i64z, i64z, LsAt.nil _ _, plain_at _, Sg.z_ok, Pt.z_ok⟩ rfl) rfl ?_
 rintro _ I4 _ hI4 ⟨D2, bcs2, rfl, ⟨_, _, _, _, _, rfl, hbk⟩, hb2, rfl, hD2⟩
 obtain ⟨_, _, _, _, _, _, _, _, _, _, rfl, rfl, rfl, rfl, rfl⟩ := hbk.sl
 rw [show (aw1.1.wrap awW).2.2 = 0 from aw2_err]
 replace hD2 : DAbs I4 D2 aw2.1 := hD2
 clear hbk
 have hk5 : (aw1.1.wrap awW).2.1.kind = 5 := aw2_kind
 have hi9 : (aw1.1.wrap awW).2.1.id = 9 := aw2_id
 generalize (aw1.1.wrap awW).2.1 = bk2 at hk5 hi9 ⊢
 rw [← hb2]
 refine jW ?_
 refine je rfl (jm (Val.extractA rfl rfl) (jm (jq rfl rfl) (WL.alloc rfl (fun _ => ?_))))
 refine jW ?_
 refine WL.stA 9 rfl rfl rfl rfl ?_
 refine jf rfl (jN (jd rfl (WL.callR [2, 2, 2, 2, 2, 2, 2] rfl rfl rfl (dEntries D2 aw2.1 _ hD2) rfl ?_)))
 rintro v I5 hI5 hv5
 have hl2 := aw2_len
 have h9 := aw2_0
 generalize aw2.1.entries = es at hv5 hl2 h9
 obtain ⟨bb, off, cap, cs, he, ⟨t1, t2, t3, t4, rfl, hi⟩, hA⟩ := hv5.get 0 (by omega)
 subst he
 have hA0 : At I5 bb (off + (0 : Int).toNat * 37) [vi es[0].id] := hA.zero rfl
 have hA2 : At I5 bb (off + (0 : Int).toNat * 37 + 2) [vi es[0].kids] := hA.one (k := 2) rfl
 have hx : es[0].id = 9 ∧ es[0].kids = 1 := by
  cases es with
  | nil => simp at hl2
  | cons x es => simpa using h9
 obtain ⟨hx1, hx2⟩ := hx
 rw [hx1] at hA0
 rw [hx2] at hA2
 refine jh rfl (jN (ja rfl (jw rfl rfl (jb rfl (jG (ja rfl (jG (jw rfl rfl (jk rfl (jb rfl (jG (jm (jn rfl) (jG (jm (jp 9 rfl rfl rfl) (jG (jw rfl rfl (jk rfl (jb rfl (jG (jm (jn rfl) (jG (jm (jp 9 rfl rfl rfl) (jG (jw rfl rfl (jk rfl (jb rfl (jG (jc rfl (jG (jm (jo rfl) (jG (jw rfl rfl (jk rfl (jb rfl (jG (jc rfl (jG (jm (jZ rfl rfl) (jG ?_)))))))))))))))))))))))))))))))))))))))
 refine jm (jn rfl) (jG (jm (Val.loadS rfl (Rd.imm (by assumption))) ?_))
 refine jG (jw rfl rfl (jk rfl (jb rfl (jG (jc rfl (jG (jm (jZ rfl rfl) (jG (jm (jn rfl) (jG (jm (Val.loadS rfl (Rd.imm (by assumption))) ?_)))))))))))
 refine jG (jw rfl rfl (jk rfl (jg rfl (jM (jR ?_)))))
 have hJ := hI2.trans (hI3.trans (hI4.trans hI5))
 exact jP [] (jr1 rfl (jtB rfl)) ⟨rfl, rfl⟩
open Go.Sl Go.Ls Go.Dc
theorem pathCheck_le {l : List Sg} (h : pathCheck l = 0) : l.length ≤ 4096 := by
 rw [pathCheck] at h
 split at h
 ·exact absurd h (by decide)
 ·omega
def PathR (q : List Sg × Int) : Value → Mem → Prop := fun v I' => ∃ w, v = .tuple #[w, vi q.2] ∧ LsAt Sg.rep I' q.1 w
theorem checked_ctr (l : List Sg) (v : Value) (I : Mem) (hN : NeedAt I) (hv : LsAt Sg.rep I l v) : Ctr Tryz.prog 158 [v] I [] (KeepR [] (PathR (checked l))) := by
 have hv0 := hv
 obtain ⟨a1, c1, rfl⟩ := hv.sl
 refine Ctr.intro Tryz.func158 rfl rfl rfl fun E F => ?_
 refine jS (jh rfl (jf rfl (jM (jB (jS (jc rfl (WL.callS rfl rfl (path_ctr l _ _ hN hv0) rfl ?_)))))))
 rintro _ rfl
 by_cases h : pathCheck l = 0
 ·rw [show checked l = (l, 0) by rw [checked, if_neg (fun e => e h)]]
  refine jf rfl (jN (ja rfl (jz rfl rfl (jM (jE (jV (jK (jc rfl (jh rfl (jf rfl (jM (jR ?_))))))))))))
  exact jP [] (jr2 rfl (jtS rfl) (jtI rfl)) ⟨rfl, _, rfl, hv0⟩
 ·rw [show checked l = ([], pathCheck l) by rw [checked, if_pos h]]
  refine jf rfl (jN (ja rfl (jJ rfl rfl (jM (jF (jS (ja rfl (jh rfl (jf rfl (jM (jR (jU ?_))))))))))))
  exact jP [] (jr2 rfl (jtS rfl) (jtI rfl)) ⟨rfl, _, rfl, LsAt.nil _ _⟩
theorem at_ctr (l : List Sg) (i : Int) (v : Value) (I : Mem) (hN : NeedAt I) (hv : LsAt Sg.rep I l v) : Ctr Tryz.prog 160 [v, vi i] I [] (Still I fun r => r = vi (atSeg l i)) := by
 have hv0 := hv
 obtain ⟨a1, c1, rfl⟩ := hv.sl
 refine Ctr.intro Tryz.func160 rfl rfl rfl fun E F => ?_
 refine jS (jf rfl (jM (jB (jS (jc rfl (WL.callS rfl rfl (path_ctr l _ _ hN hv0) rfl ?_))))))
 rintro _ rfl
 by_cases h : pathCheck l = 0
 case neg =>
  refine jf rfl (jN (ja rfl (jJ rfl rfl (jM (jF (jS (ja rfl (jf rfl (jM (jR (jU ?_)))))))))))
  exact jP [] (jr1 rfl (jtI rfl)) ⟨rfl, rfl, by rw [atSeg, if_pos h]⟩
 rw [show atSeg l i = if i < 0 ∨ (l.length : Int) ≤ i then 30 else 0 by rw [atSeg, if_neg (fun e => e h)]]
 by_cases h1 : i < 0
 ·skip
  refine jf rfl (jN (ja rfl (jz rfl rfl (jM (jE (jV (jA (jB (jS (ja rfl (jy rfl rfl (jb rfl (jH (jH (jH (jH (jk rfl (jM (jF (jS (jf rfl (jM (jR (jU ?_))))))))))))))))))))))))
  exact jP [] (jr1 rfl (jtI rfl)) ⟨rfl, rfl, by rw [if_pos (.inl h1)]⟩
 by_cases h2 : (l.length : Int) ≤ i
 ·skip
  refine jf rfl (jN (ja rfl (jz rfl rfl (jM (jE (jV (jA (jB (jS (ja rfl (jx rfl rfl (jb rfl (jG (ja rfl (jG (jc rfl (jG (jm (jo rfl) (jG (jm (Val.geq rfl rfl (decide_eq_true (by omega))) ?_))))))))))))))))))))
  refine jk rfl (jM (jF (jS (jf rfl (jM (jR (jU ?_)))))))
  exact jP [] (jr1 rfl (jtI rfl)) ⟨rfl, rfl, by rw [if_pos (.inr h2)]⟩
 ·skip
  refine jf rfl (jN (ja rfl (jz rfl rfl (jM (jE (jV (jA (jB (jS (ja rfl (jx rfl rfl (jb rfl (jG (ja rfl (jG (jc rfl (jG (jm (jo rfl) (jG (jm (Val.geq rfl rfl (decide_eq_false (by omega))) ?_))))))))))))))))))))
  refine jk rfl (jM (jE (jV (jK (jf rfl (jM (jR ?_)))))))
  exact jP [] (jr1 rfl (jtI rfl)) ⟨rfl, rfl, by rw [if_neg (by omega)]⟩
theorem grow_ctr (n : Nat) (I : Mem) (hn : n ≤ 1000000000) : Ctr Tryz.prog 170 [.slice none 0 0, vi n] I [] (fun r I' L' => I' = I ∧ ∃ a c, r = .slice a 0 c ∧ L' = [sl 57 7 r 0 []]) := by
 refine Ctr.intro Tryz.func170 rfl rfl rfl fun E F => ?_
 refine jS (jh rfl (jM (jB (jS (ja rfl (jx rfl rfl (jM (jE (jV (jA (jB (jS (ja rfl (jc rfl (jm (Val.cap rfl) ?_)))))))))))))))
 by_cases h0 : 0 < n
 ·skip
  refine jc rfl (jm (jo rfl) (jm (Val.sub rfl rfl (wrap_i64 (by omega) (by omega))) ?_))
  refine jm (Val.sub rfl rfl (wrap_i64 (by omega) (by omega))) ?_
  refine jf rfl (jN (ja rfl (jO rfl rfl (jM (jF (jD (jc rfl (jc rfl (jm (Val.cap rfl) ?_)))))))))
  refine jm (Val.slice (l := 0) (h := 0) rfl (.none _) (.some (e := 0) rfl (by decide)) (by omega) (by omega)) ?_
  refine ja rfl (WL.appNil (q := n) rfl (by show Value.int .i64 ((n : Int) - (((0 : Nat) : Int) - ((0 : Nat) : Int))) = _; rw [show (n : Int) - (((0 : Nat) : Int) - ((0 : Nat) : Int)) = (n : Int) by omega]) h0 (by rfl) (by decide) (by omega) (by omega) rfl fun g2 cap2 hc1 hc2 => ?_)
  refine jW ?_
  refine jc rfl (jm (jo rfl) (jm (Val.sliceTo (m := 0) rfl rfl (by omega)) ?_))
  refine jh rfl (jN (jc rfl (jh rfl (jM (jR ?_)))))
  exact jP [0] (jr1 rfl (jtS rfl)) ⟨rfl, _, _, rfl, rfl⟩
 ·obtain rfl : n = 0 := by omega
  refine jc rfl (jm (jo rfl) (jm (Val.sub rfl rfl (wrap_i64 (by omega) (by omega))) ?_))
  refine jm (Val.sub rfl rfl (wrap_i64 (by omega) (by omega))) ?_
  refine jf rfl (jN (ja rfl (jL rfl rfl (jM (jE (jV (jK (jc rfl (jh rfl (jM (jR (WX.conv (fun w h => (h.sl_nil (e := 57) (sz := 7)).sub [1, 0] rfl) ?_))))))))))))
  exact jP [0] (jr1 rfl (jtS rfl)) ⟨rfl, _, _, rfl, rfl⟩
def parts (ps : List (List Sg × Value)) : List Sg := (ps.map Prod.fst).flatten
theorem parts_snoc {ps : List (List Sg × Value)} {k : Nat} (h : k < ps.length) : parts (ps.take (k + 1)) = parts (ps.take k) ++ (ps[k]).1 := by
 rw [parts, parts, List.take_succ_eq_append_getElem h, List.map_append, List.flatten_append]
 simp
theorem parts_le (ps : List (List Sg × Value)) (k : Nat) : (parts (ps.take k)).length ≤ (parts ps).length := by
 conv => rhs; rw [← List.take_append_drop k ps]
 rw [parts, parts, List.map_append, List.flatten_append, List.length_append]
 omega
theorem concat_ctr (ps : List (List Sg × Value)) (g : Nat) (I : Mem) (hp : ∀ (k : Nat) (h : k < ps.length), LsAt Sg.rep I (ps[k]).1 (ps[k]).2) (hl : (parts ps).length ≤ 100000) (hn : ps.length ≤ 10) :
  Ctr Tryz.prog 159 [.slice (some ⟨g, 0, none⟩) ps.length ps.length] I [box g 36 (ps.map Prod.snd)]
   (fun r I' L' => I' = I ∧ ∃ a c p, r = .slice a (parts ps).length c ∧ L' = [box g 36 (ps.map Prod.snd), p] ∧ OwnL Sg.rep 57 7 I (parts ps) r p) := by
 refine Ctr.intro Tryz.func159 rfl rfl rfl fun E F => ?_
 have hcell : ∀ (k : Nat) (h : k < ps.length), (ps.map Prod.snd)[0 + ((k : Nat) : Int).toNat * 1]? = some (ps[k]).2 := fun k h => by
  rw [Nat.zero_add, Int.toNat_natCast, Nat.mul_one, List.getElem?_map, List.getElem?_eq_getElem h]; rfl
 refine jS (jh rfl (jN (jf rfl (jM (jB (jS (jc rfl (jm (jo rfl) (ja rfl (jM (WC.block ?_)))))))))))
 refine WC.loop (fun n ρ' I' L' => ∃ k : Nat, n = ps.length - k ∧ k ≤ ps.length ∧ I' = I ∧ ρ' 0 = .slice (some ⟨g, 0, none⟩) ps.length ps.length ∧ ρ' 3 = vi (parts (ps.take k)).length ∧ ρ' 9 = .slice (some ⟨g, 0, none⟩) ps.length ps.length ∧ ρ' 10 = vi ps.length ∧ ρ' 11 = vi k ∧ L' = [F, box g 36 (ps.map Prod.snd)])
  ps.length ⟨0, rfl, by omega, rfl, rfl, rfl, rfl, rfl, rfl, rfl⟩ ?_
 rintro n ρ' I0 L' ⟨k, rfl, hk, rfl, r0, r3, r9, r10, r11, rfl⟩
 refine ju5 r11 r10 r9 r3 r0 ?_
 have hle := parts_le ps k
 by_cases hkn : k < ps.length
 ·have hc := hcell k hkn
  have hps := parts_snoc hkn
  have hle2 := parts_le ps (k + 1)
  have hlen : (parts (ps.take (k + 1))).length = (parts (ps.take k)).length + (ps[k]).1.length := by rw [hps, List.length_append]
  obtain ⟨a, c, hv⟩ := (hp k hkn).sl
  rw [hv] at hc
  refine jS (jy rfl rfl (jM (jB (jF (jV (jA (jB (WC.block (jS (jm (jZ rfl rfl) (jm (Val.loadS rfl (Rd.own1 1 rfl hc)) ?_)))))))))))
  exact jh rfl (jN (ja rfl (jc rfl (jm (jo rfl) (jX rfl rfl (jf rfl (jN (ja rfl (jx rfl rfl (jM (jE (jV (WX.inNormal (jA (jD (jX rfl rfl (ja rfl (jC (WX.thenK (WK.round (ps.length - (k + 1)) (by omega) ⟨k + 1, rfl, by omega, rfl, rfl, by rw [hlen]; rfl, rfl, rfl, rfl, rfl⟩))))))))))))))))))))
 have hke : k = ps.length := by omega
 subst hke
 rw [List.take_length] at hle ⊢
 refine jS (jx rfl rfl (jM (jB (jE (WC.exit (WX.thenExit (WX.thenExit (WX.inHit (jK (ja rfl (WL.callP [] rfl rfl (grow_ctr (parts ps).length _ (by omega)) rfl ?_)))))))))))
 rintro _ I1 _ _ ⟨rfl, a, c, rfl, rfl⟩
 refine jW ?_
 refine jh rfl (jM (jB (jS (jc rfl (jm (jo rfl) (ja rfl (jM (WC.block ?_))))))))
 refine WC.loop (fun n ρ' I' L' => ∃ (k : Nat) (a : Option Addr) (c : Nat) (p : HP), n = ps.length - k ∧ k ≤ ps.length ∧ I' = I1 ∧ ρ' 6 = .slice a (parts (ps.take k)).length c ∧ ρ' 25 = .slice (some ⟨g, 0, none⟩) ps.length ps.length ∧ ρ' 26 = vi ps.length ∧ ρ' 27 = vi k ∧ L' = [F, box g 36 (ps.map Prod.snd), p] ∧ OwnL Sg.rep 57 7 I1 (parts (ps.take k)) (.slice a (parts (ps.take k)).length c) p)
  ps.length ⟨0, _, _, _, rfl, by omega, rfl, rfl, rfl, rfl, rfl, rfl, ⟨[], rfl, trivial⟩⟩ ?_
 rintro n ρ' I0 L' ⟨k, a, c, p, rfl, hk, rfl, r6, r25, r26, r27, rfl, hpp⟩
 refine ju4 r27 r26 r25 r6 ?_
 by_cases hkn : k < ps.length
 ·have hc := hcell k hkn
  have hps := parts_snoc hkn
  have hle2 := parts_le ps (k + 1)
  have hlen : (parts (ps.take (k + 1))).length = (parts (ps.take k)).length + (ps[k]).1.length := by rw [hps, List.length_append]
  have hpk := hp k hkn
  obtain ⟨a2, c2, hv⟩ := hpk.sl
  rw [hv] at hc hpk
  refine jS (jy rfl rfl (jM (jB (jF (jV (jA (jB (WC.block (jS (jm (jZ rfl rfl) (jm (Val.loadS rfl (Rd.own1 1 rfl hc)) ?_)))))))))))
  refine jh rfl (jM (jD (jc rfl (jc rfl (WL.appL (R := Sg.rep) 2 rfl rfl hpp rfl hpk (fun x cs h => by rw [h.1]; rfl) (by rfl) (by decide) (by omega) (by unfold maxLen; omega) rfl fun aa cc p' hp' => ?_)))))
  refine WL.nSet ?_
  rw [← hps] at hp' ⊢
  exact jh rfl (jC (WX.inNormal (jA (jD (jX rfl rfl (ja rfl (jC (WX.thenK (WK.round (ps.length - (k + 1)) (by omega) ⟨k + 1, aa, cc, p', rfl, by omega, rfl, rfl, rfl, rfl, rfl, rfl, hp'⟩)))))))))
 ·have hke : k = ps.length := by omega
  subst hke
  rw [List.take_length] at hpp ⊢
  refine jS (jx rfl rfl (jM (jB (jE (WC.exit (WX.thenExit (WX.thenExit (WX.inHit (jK (jc rfl (jh rfl (jM (jR ?_)))))))))))))
  exact jP [0, 0] (jr1 rfl (jtS rfl)) ⟨rfl, _, _, _, rfl, rfl, hpp⟩
end Go.Proofs.YtggcpoleklcmkaaGreatDoor

namespace Go.Ls
open Go.Sl
theorem flat_take {α : Type} {R : Rep α} {sz : Nat} [hL : RepLen R sz] {I : Mem} (k : Nat) {l : List α} {css : List (List Value)} (h : All2 (R I) l css) : (css.take k).flatten = css.flatten.take (k * sz) ∧ All2 (R I) (l.take k) (css.take k) := by
 induction k generalizing l css with
 | zero => exact ⟨by simp, by cases l <;> cases css <;> trivial⟩
 | succ k ih =>
  cases l with
  | nil => cases css with
   | nil => exact ⟨by simp, trivial⟩
   | cons _ _ => exact h.elim
  | cons x l => cases css with
   | nil => exact h.elim
   | cons c css =>
    obtain ⟨h1, h2⟩ := h
    obtain ⟨e, h3⟩ := ih h2
    have hc : c.length = sz := hL.len h1
    refine ⟨?_, ⟨h1, h3⟩⟩
    rw [Nat.succ_mul, List.take_succ_cons, List.flatten_cons, List.flatten_cons, e, List.take_append, hc, List.take_of_length_le (l := c) (by omega), Nat.add_sub_cancel]
theorem LsAt.take {α : Type} {R : Rep α} {sz : Nat} [hL : RepLen R sz] {I : Mem} {l : List α} {a : Option Addr} {n cap : Nat} (h : LsAt R I l (.slice a n cap)) (k : Nat) (hk : k ≤ l.length) : LsAt R I (l.take k) (.slice a k cap) := by
 obtain ⟨css, ⟨a', cap', hv, hc, hcs⟩, hall⟩ := h
 injection hv with h1 h2 h3
 subst h1; subst h3
 obtain ⟨e, h4⟩ := flat_take k hall
 have hlen : (l.take k).length = k := by rw [List.length_take]; omega
 refine ⟨css.take k, ⟨_, _, by rw [hlen], ⟨by rw [hlen]; omega, hc.2⟩, ?_⟩, h4⟩
 rcases hcs with ⟨h0, h9⟩ | ⟨b, off, he, hA⟩
 ·exact .inl ⟨by rw [hlen]; omega, by rw [e, h9, List.take_nil]⟩
 ·exact .inr ⟨b, off, he, by rw [e]; exact hA.take _⟩
def dropV (a : Option Addr) (cap k sz : Nat) : Option Addr := if cap = k then a else a.map (·.add (k * sz))
theorem LsAt.adr {α : Type} {R : Rep α} {I : Mem} {l : List α} {a : Option Addr} {n cap : Nat} (h : LsAt R I l (.slice a n cap)) : 0 < l.length → ∃ b off, a = some ⟨b, off, none⟩ := by
 intro h0
 obtain ⟨css, ⟨a', cap', hv, hc, ⟨hh, _⟩ | ⟨b, off, he, hA⟩⟩, hall⟩ := h
 ·omega
 ·injection hv with h1 h2 h3
  exact ⟨b, off, by rw [h1, he]⟩
theorem LsAt.dropG {α : Type} {R : Rep α} {sz : Nat} [hL : RepLen R sz] {I : Mem} {l : List α} {a : Option Addr} {n cap : Nat} (h : LsAt R I l (.slice a n cap)) (k : Nat) (hk : k ≤ l.length) : LsAt R I (l.drop k) (.slice (dropV a cap k sz) (l.length - k) (cap - k)) := by
 have hcap := h.cap
 by_cases hn : l.length = k
 ·have h2 : l.drop k = [] := List.drop_eq_nil_of_le (by omega)
  rw [h2]
  exact ⟨[], ⟨_, _, by rw [show l.length - k = 0 by omega]; rfl, ⟨Nat.zero_le _, by omega⟩, .inl ⟨rfl, rfl⟩⟩, trivial⟩
 ·obtain ⟨b, off, rfl⟩ := h.adr (by omega)
  rw [dropV, if_neg (by omega), Option.map_some, addr_add]
  exact h.drop k hk
theorem Val.sliceToG {Γ : Cx} {ρ : Nat → Value} {I : Mem} {L : List HP} {ty t e n len cap m : Nat} {a : Option Addr} {x hi : Operand} [hk : SlK Γ.P t e n] (hx : ev ρ x = .slice a len cap) (ha : 0 < m → ∃ b off, a = some ⟨b, off, none⟩) (hl : ev ρ hi = .int .i64 (m : Int)) (h1 : m ≤ cap) :
  Val Γ ρ I L (.slice t x none (some hi) none) ty (.slice (dropV a cap 0 n) m cap) := by
 have := Val.slice (Γ := Γ) (I := I) (L := L) (ty := ty) (t := t) (e := e) (n := n) (hk := hk) (l := 0) (h := m) hx (.none _) (.some (e := (m : Int)) hl (Int.natCast_nonneg m)) (Nat.zero_le _) h1
 exact this
theorem Val.sliceFromG {Γ : Cx} {ρ : Nat → Value} {I : Mem} {L : List HP} {ty t e n len cap m : Nat} {i : Int} {a : Option Addr} {x lo : Operand} [hk : SlK Γ.P t e n] (hx : ev ρ x = .slice a len cap) (hl : ev ρ lo = .int .i64 i) (hi : i = (m : Int)) (h1 : m ≤ len) (h2 : len ≤ cap) :
  Val Γ ρ I L (.slice t x (some lo) none none) ty (.slice (dropV a cap m n) (len - m) (cap - m)) := by
 subst hi
 exact Val.slice (Γ := Γ) (I := I) (L := L) (ty := ty) (t := t) (e := e) (n := n) (hk := hk) (l := m) (h := len) hx (.some (e := (m : Int)) hl (Int.natCast_nonneg m)) (.none _) h1 h2
theorem LsAt.takeG {α : Type} {R : Rep α} {sz : Nat} [hL : RepLen R sz] {I : Mem} {l : List α} {a : Option Addr} {n cap : Nat} (h : LsAt R I l (.slice a n cap)) (k : Nat) (hk : k ≤ l.length) : LsAt R I (l.take k) (.slice (dropV a cap 0 sz) k cap) := by
 have hcap := h.cap
 by_cases hn : k = 0
 ·subst hn
  rw [List.take_zero]
  exact ⟨[], ⟨_, _, rfl, ⟨Nat.zero_le _, hcap.2⟩, .inl ⟨rfl, rfl⟩⟩, trivial⟩
 ·obtain ⟨b, off, rfl⟩ := h.adr (by omega)
  rw [dropV, Option.map_some, addr_add, Nat.zero_mul, Nat.add_zero, ite_self]
  exact h.take k hk
theorem All2.set {α β : Type} {R : α → β → Prop} {b : β} {a : α} (h : R a b) : ∀ {l : List α} {r : List β} (i : Nat), All2 R l r → All2 R (l.set i a) (r.set i b)
 | [], [], _, _ => trivial
 | [], _ :: _, _, h => h.elim
 | _ :: _, [], _, h => h.elim
 | _ :: _, _ :: _, 0, h1 => ⟨h, h1.2⟩
 | _ :: _, _ :: _, i + 1, h1 => ⟨h1.1, All2.set h i h1.2⟩
theorem All2.nth {α β : Type} {R : α → β → Prop} : ∀ {l : List α} {r : List β} (_ : All2 R l r) (i : Nat) (h1 : i < l.length) (h2 : i < r.length), R l[i] r[i]
 | [], _, _, _, h, _ => absurd h (Nat.not_lt_zero _)
 | _ :: _, [], h, _, _, _ => h.elim
 | _ :: _, _ :: _, h, 0, _, _ => h.1
 | _ :: l, _ :: r, h, i + 1, h1, h2 => All2.nth h.2 i (Nat.lt_of_succ_lt_succ h1) (Nat.lt_of_succ_lt_succ h2)
theorem All2.lens {α : Type} {R : Rep α} {sz : Nat} [hL : RepLen R sz] {I : Mem} : ∀ {l : List α} {css : List (List Value)}, All2 (R I) l css → ∀ c ∈ css, c.length = sz
 | [], [], _, c, h => absurd h (List.not_mem_nil)
 | [], _ :: _, h, _, _ => h.elim
 | _ :: _, [], h, _, _ => h.elim
 | _ :: _, _ :: _, h, c, hc => by
  rcases List.mem_cons.1 hc with rfl | hc
  ·exact hL.len h.1
  ·exact All2.lens h.2 c hc
end Go.Ls
namespace Go.Dc
open Go.Sl Go.Ls
theorem atSeg_ok {l : List Sg} {i : Int} (h : atSeg l i = 0) : pathCheck l = 0 ∧ 0 ≤ i ∧ i < l.length ∧ l.length ≤ 4096 := by
 rw [atSeg] at h
 split at h
 ·rename_i h1; exact absurd h h1
 ·rename_i h1
  have h2 : pathCheck l = 0 := Decidable.of_not_not h1
  have h3 : l.length ≤ 4096 := by
   rw [pathCheck] at h2
   split at h2
   ·exact absurd h2 (by decide)
   ·omega
  split at h
  ·exact absurd h (by decide)
  ·exact ⟨h2, by omega, by omega, h3⟩
theorem sgAt_nat {l : List Sg} {j : Nat} (h : j < l.length) : sgAt l j = l[j] := by
 rw [sgAt, Int.toNat_natCast, List.getD_eq_getElem?_getD, List.getElem?_eq_getElem h]; rfl
theorem set_cs (x : Sg) (p : Pt) (k : Nat) (hk : k < 3) : splice x.cs (1 + k * 2) p.cs = (x.setPoint k p).cs := by
 have : k = 0 ∨ k = 1 ∨ k = 2 := by omega
 rcases this with rfl | rfl | rfl <;> rfl
theorem set_ok {x : Sg} {p : Pt} (hx : x.ok) (hp : p.ok) (k : Nat) : (x.setPoint k p).ok := by
 rw [Sg.setPoint]
 split
 ·exact ⟨hx.1, hp, hx.2.2⟩
 ·split
  ·exact ⟨hx.1, hx.2.1, hp, hx.2.2.2⟩
  ·exact ⟨hx.1, hx.2.1, hx.2.2.1, hp⟩
theorem need_le (k : Int) : need k ≤ 3 := by
 rw [need]
 split
 ·decide
 ·split
  ·decide
  ·split <;> decide
end Go.Dc
namespace Go.Proofs.YtggcpoleklcmkaaGreatDoor
open Go.Sl Go.Ls Go.Dc
theorem parts2 {a b : List Sg} {v w : Value} : parts [(a, v), (b, w)] = a ++ b := by rw [parts]; simp
theorem parts3 {a b c : List Sg} {v w x : Value} : parts [(a, v), (b, w), (c, x)] = a ++ (b ++ c) := by rw [parts]; simp
theorem pDelete (l : List Sg) (i : Int) (v : Value) (I : Mem) (hN : NeedAt I) (hv : LsAt Sg.rep I l v) : Ctr Tryz.prog 137 [v, vi i] I [] (KeepR [] (PathR (pathDelete l i))) := by
 have hv0 := hv
 obtain ⟨a1, c1, rfl⟩ := hv.sl
 refine Ctr.intro Tryz.func137 rfl rfl rfl fun E F => ?_
 refine jS (jh rfl (jf rfl (jM (jB (jS (jc rfl (ja rfl (WL.callS rfl rfl (at_ctr l i _ _ hN hv0) rfl ?_))))))))
 rintro _ rfl
 by_cases h : atSeg l i = 0
 case neg =>
  rw [show pathDelete l i = ([], atSeg l i) by rw [pathDelete, if_pos h]]
  refine jf rfl (jN (ja rfl (jJ rfl rfl (jM (jF (jS (ja rfl (jh rfl (jf rfl (jM (jR (jU ?_))))))))))))
  exact jP [] (jr2 rfl (jtS rfl) (jtI rfl)) ⟨rfl, _, rfl, LsAt.nil _ _⟩
 rw [show pathDelete l i = checked (l.take i.toNat ++ l.drop (i.toNat + 1)) by rw [pathDelete, if_neg (fun e => e h)]]
 have hat := atSeg_ok h
 obtain ⟨j, rfl⟩ : ∃ j : Nat, i = j := ⟨i.toNat, by omega⟩
 rw [Int.toNat_natCast]
 have hcp := hv0.cap
 have ht := hv0.takeG j (by omega)
 have hd := hv0.dropG (j + 1) (by omega)
 refine jf rfl (jN (ja rfl (jz rfl rfl (jM (jE (jV (jA (jB (j8 999 [] rfl (jT 0 rfl (Val.moveS rfl) (jT 1 rfl (Val.moveI rfl) (jT 2 rfl (Val.sliceToG (m := j) rfl (fun h => hv0.adr (by omega)) rfl (by omega)) ?_))))))))))))
 refine jT 3 rfl (Val.moveS rfl) (jT 4 rfl (Val.moveI rfl) (jT 5 rfl (Val.add rfl rfl (wrap_i64 (by omega) (by omega))) ?_))
 refine jT 6 rfl (Val.sliceFromG (m := j + 1) rfl rfl rfl (by omega) (by omega)) ?_
 refine j5 7 rfl (WL.buildSlice (by with_unfolding_all exact rfl) rfl (by with_unfolding_all exact rfl) rfl (fun _ => ?_))
 rename_i g
 refine jW ?_
 refine jC (j7 [] rfl (j5 8 rfl ?_))
 refine WL.callP [1] rfl rfl (concat_ctr [(l.take j, _), (l.drop (j + 1), _)] g _ (fun k hk => by
  have : k = 0 ∨ k = 1 := by simp only [List.length_cons, List.length_nil] at hk; omega
  rcases this with rfl | rfl
  ·exact ht
  ·exact hd) (by rw [parts2, List.length_append, List.length_take, List.length_drop]; omega) (by simp)) rfl ?_
 rintro _ I1 _ hI1 ⟨rfl, a, c, p, rfl, rfl, hp⟩
 rw [parts2] at hp ⊢
 refine jW ?_
 refine WL.freezeL 2 rfl hp fun I3 hI3 hw => ?_
 refine jC (j9 [] (hI3) rfl (j5 9 rfl (WL.callR [] rfl rfl rfl (checked_ctr _ _ _ (hN.mono hI3) hw) rfl ?_)))
 rintro _ I4 hI4 ⟨w, rfl, hw4⟩
 refine jC (j9 [] ((hI3.trans hI4)) rfl (jT 10 rfl (Val.extract rfl rfl) ?_))
 refine jT 11 rfl (jq rfl rfl) (jT 12 rfl Val.assign ?_)
 refine jT 13 rfl (Val.assignI rfl) (j6 (jA (jR ?_)))
 have hJ := hI3.trans hI4
 exact jP [] (jr2 rfl (ResIs.tmp rfl) (jtI rfl)) ⟨rfl, _, rfl, hw4⟩
theorem pInsert (l : List Sg) (i : Int) (s : Sg) (v : Value) (I : Mem) (hN : NeedAt I) (hv : LsAt Sg.rep I l v) (hs : s.ok) : Ctr Tryz.prog 136 [v, vi i, .agg s.cs.toArray] I [] (KeepR [] (PathR (pathInsert l i s))) := by
 have hv0 := hv
 obtain ⟨a1, c1, rfl⟩ := hv.sl
 refine Ctr.intro Tryz.func136 rfl rfl rfl fun E F => ?_
 refine jS (WL.boxA rfl rfl (fun _ => ?_))
 refine jW ?_
 refine jh rfl (jf rfl (jM (jB (jS (jc rfl ?_)))))
 rename_i g5
 refine WL.callS rfl rfl (path_ctr l _ _ hN hv0) rfl ?_
 rintro _ rfl
 by_cases h : pathCheck l = 0
 case neg =>
  rw [show pathInsert l i s = ([], pathCheck l) by rw [pathInsert, if_pos h]]
  refine jf rfl (jN (ja rfl (jJ rfl rfl (jM (jF (jS (ja rfl (jh rfl (jf rfl (jM (jR (jU ?_))))))))))))
  exact jP [] (jr2 rfl (jtS rfl) (jtI rfl)) ⟨rfl, _, rfl, LsAt.nil _ _⟩
 have hle := pathCheck_le h
 rw [show pathInsert l i s = if i < 0 ∨ (l.length : Int) < i then ([], 30) else checked (l.take i.toNat ++ s :: l.drop i.toNat) by rw [pathInsert, if_neg (fun e => e h)]]
 by_cases h1 : i < 0
 ·rw [if_pos (.inl h1)]
  refine jf rfl (jN (ja rfl (jz rfl rfl (jM (jE (jV (jA (jB (jS (ja rfl (jy rfl rfl (jb rfl (jH (jH (jH (jH (jk rfl (jM (jF (jS (jh rfl (jf rfl (jM (jR (jU ?_)))))))))))))))))))))))))
  exact jP [] (jr2 rfl (jtS rfl) (jtI rfl)) ⟨rfl, _, rfl, LsAt.nil _ _⟩
 by_cases h2 : (l.length : Int) < i
 ·rw [if_pos (.inr h2)]
  refine jf rfl (jN (ja rfl (jz rfl rfl (jM (jE (jV (jA (jB (jS (ja rfl (jx rfl rfl (jb rfl (jG (ja rfl (jG (jc rfl (jG (jm (jo rfl) (jG (jO rfl rfl (jk rfl (jM (jF (jS (jh rfl (jf rfl (jM (jR (jU ?_)))))))))))))))))))))))))))))
  exact jP [] (jr2 rfl (jtS rfl) (jtI rfl)) ⟨rfl, _, rfl, LsAt.nil _ _⟩
 rw [if_neg (by omega)]
 obtain ⟨j, rfl⟩ : ∃ j : Nat, i = j := ⟨i.toNat, by omega⟩
 rw [Int.toNat_natCast]
 have hcp := hv0.cap
 have ht := hv0.takeG j (by omega)
 have hd := hv0.dropG j (by omega)
 refine jf rfl (jN (ja rfl (jz rfl rfl (jM (jE (jV (jA (jB (jS (ja rfl (jx rfl rfl (jb rfl (jG (ja rfl (jG (jc rfl (jG (jm (jo rfl) (jG (jL rfl rfl (jk rfl (jM (jE (jV (jA (jB (j8 999 [1] rfl (jT 0 rfl (Val.moveS rfl) (jT 1 rfl (Val.moveI rfl) (jT 2 rfl (Val.sliceToG (m := j) rfl (fun h => hv0.adr (by omega)) rfl (by omega)) ?_))))))))))))))))))))))))))))))
 refine jT 3 rfl (jt 0 rfl rfl rfl) (jT 5 rfl (Val.moveS rfl) (jT 6 rfl (Val.moveI rfl) (jT 7 rfl (Val.sliceFromG (m := j) rfl rfl rfl (by omega) (by omega)) ?_)))
 refine j5 4 rfl (WL.buildSlice (by with_unfolding_all exact rfl) rfl (by with_unfolding_all exact rfl) rfl (fun _ => ?_))
 rename_i g6
 refine jW ?_
 refine WL.lit (R := Sg.rep) (l := [s]) (css := [s.cs]) (sz := 7) 2 rfl ⟨⟨rfl, hs⟩, trivial⟩ rfl (by simp [maxLen]) fun I0 hI0 hone => ?_
 refine jC (j9 [1] (hI0) rfl (j5 8 rfl (WL.buildSlice (by with_unfolding_all exact rfl) rfl (by with_unfolding_all exact rfl) rfl (fun _ => ?_))))
 rename_i g
 refine jW ?_
 refine jC (j9 [1] (hI0) rfl (j5 9 rfl ?_))
 refine WL.callP [2] rfl rfl (concat_ctr [(l.take j, _), ([s], _), (l.drop j, _)] g _ (fun k hk => by
  have : k = 0 ∨ k = 1 ∨ k = 2 := by simp only [List.length_cons, List.length_nil] at hk; omega
  rcases this with rfl | rfl | rfl
  ·exact ht.mono hI0
  ·exact hone
  ·exact hd.mono hI0) (by rw [parts3, List.length_append, List.length_take, List.length_append, List.length_drop, List.length_singleton]; omega) (by simp)) rfl ?_
 rintro _ I1 _ hI1 ⟨rfl, a, c, p, rfl, rfl, hp⟩
 rw [parts3] at hp ⊢
 refine jW ?_
 refine WL.freezeL 3 rfl hp fun I3 hI3 hw => ?_
 refine jC (j9 [1] ((hI0.trans hI3)) rfl (j5 10 rfl (WL.callR [] rfl rfl rfl (checked_ctr _ _ _ (hN.mono (hI0.trans hI3)) hw) rfl ?_)))
 rintro _ I4 hI4 ⟨w, rfl, hw4⟩
 refine jC (j9 [1] (((hI0.trans hI3).trans hI4)) rfl (jT 11 rfl (Val.extract rfl rfl) ?_))
 refine jT 12 rfl (jq rfl rfl) (jT 13 rfl Val.assign ?_)
 refine jT 14 rfl (Val.assignI rfl) (j6 (jA (jR ?_)))
 have hJ := (hI0.trans hI3).trans hI4
 exact jP [] (jr2 rfl (ResIs.tmp rfl) (jtI rfl)) ⟨rfl, _, rfl, hw4⟩
theorem pPut (l : List Sg) (i k : Int) (p : Pt) (v : Value) (I : Mem) (hN : NeedAt I) (hv : LsAt Sg.rep I l v) (hp : p.ok) : Ctr Tryz.prog 138 [v, vi i, vi k, .agg p.cs.toArray] I [] (KeepR [] (PathR (pathPut l i k p))) := by
 have hv0 := hv
 obtain ⟨a1, c1, rfl⟩ := hv.sl
 refine Ctr.intro Tryz.func138 rfl rfl rfl fun E F => ?_
 refine jS (WL.boxA rfl rfl (fun _ => ?_))
 refine jW ?_
 refine jh rfl (jf rfl (jM (jB (jS (jc rfl (ja rfl ?_))))))
 rename_i g7
 refine WL.callS rfl rfl (at_ctr l i _ _ hN hv0) rfl ?_
 rintro _ rfl
 by_cases h : atSeg l i = 0
 case neg =>
  rw [show pathPut l i k p = ([], atSeg l i) by rw [pathPut, if_pos h]]
  refine jf rfl (jN (ja rfl (jJ rfl rfl (jM (jF (jS (ja rfl (jh rfl (jf rfl (jM (jR (jU ?_))))))))))))
  exact jP [] (jr2 rfl (jtS rfl) (jtI rfl)) ⟨rfl, _, rfl, LsAt.nil _ _⟩
 have hat := atSeg_ok h
 rw [show pathPut l i k p = if k < 0 ∨ (need (sgAt l i).kind : Int) ≤ k then ([], 30) else checked (l.set i.toNat ((sgAt l i).setPoint k.toNat p)) by rw [pathPut, if_neg (fun e => e h)]]
 by_cases h1 : k < 0
 ·rw [if_pos (.inl h1)]
  refine jf rfl (jN (ja rfl (jz rfl rfl (jM (jE (jV (jA (jB (jS (ja rfl (jy rfl rfl (jb rfl (jH (jH (jH (jH (jH (jH (jH (jH (jk rfl (jM (jF (jS (jh rfl (jf rfl (jM (jR (jU ?_)))))))))))))))))))))))))))))
  exact jP [] (jr2 rfl (jtS rfl) (jtI rfl)) ⟨rfl, _, rfl, LsAt.nil _ _⟩
 obtain ⟨j, rfl⟩ : ∃ j : Nat, i = j := ⟨i.toNat, by omega⟩
 obtain ⟨q, rfl⟩ : ∃ q : Nat, k = q := ⟨k.toNat, by omega⟩
 have hj : j < l.length := by omega
 rw [sgAt_nat hj, Int.toNat_natCast, Int.toNat_natCast]
 obtain ⟨b, off, cap, cs, he, ⟨rfl, hx⟩, hA⟩ := hv0.get j hj
 cases he
 generalize hgx : l[j] = x at hA hx ⊢
 have hA0 : At I b (off + (j : Int).toNat * 7) [vi x.kind] := hA.zero rfl
 refine jf rfl (jN (ja rfl (jz rfl rfl (jM (jE (jV (jA (jB (jS (ja rfl (jx rfl rfl (jb rfl (jG (ja rfl (jG (jc rfl (jG (ja rfl (jG (jm (jZ rfl rfl) (jG (jm (jn rfl) (jG (jm (Val.loadS rfl (Rd.imm (by assumption))) ?_))))))))))))))))))))))))
 refine jG (WL.callS rfl rfl (need_ctr x.kind _ hN) rfl ?_)
 rintro _ rfl
 by_cases h2 : (need x.kind : Int) ≤ q
 ·rw [if_pos (.inr h2)]
  refine jG (jm (Val.geq rfl rfl (decide_eq_true (by omega))) ?_)
  refine jk rfl (jM (jF (jS (jh rfl (jf rfl (jM (jR (jU ?_))))))))
  exact jP [] (jr2 rfl (jtS rfl) (jtI rfl)) ⟨rfl, _, rfl, LsAt.nil _ _⟩
 rw [if_neg (by omega)]
 have hq : q < 3 := by have := need_le x.kind; omega
 refine jG (jm (Val.geq rfl rfl (decide_eq_false (by omega))) ?_)
 refine jk rfl (jM (jE (jV (jK (jc rfl (WL.callP [] rfl rfl (cloneSg l _ _ hv0 (by omega)) rfl ?_))))))
 rintro _ I1 _ hI1 ⟨rfl, a, c, pp, rfl, rfl, css, rfl, hall⟩
 refine jW ?_
 refine jh rfl (jM (jB (WC.slOpen 2 rfl fun aa cap' he hg hcap => ?_)))
 injection he with he1 he2 he3
 subst he1; subst he3
 obtain ⟨g, rfl⟩ := hg (by omega)
 refine j8 999 [1] rfl (jT 0 rfl (Val.moveS rfl) (jT 1 rfl (Val.moveI rfl) (jT 2 rfl (Val.moveI rfl) (jT 3 rfl (jt 0 rfl rfl rfl) (jT 4 rfl (jZ rfl rfl) (jT 5 rfl (jn rfl) (jT 6 rfl (Val.indexAddrA rfl rfl (by omega) (by omega)) ?_)))))))
 refine j5 7 rfl ?_
 have hfl := flat_len hall
 refine WL.storeSl 2 rfl rfl rfl rfl (by show 0 + (j : Int).toNat * 7 + 1 + (q : Int).toNat * 2 + 2 ≤ l.length * 7; rw [Int.toNat_natCast, Int.toNat_natCast]; omega) ?_
 change WL _ _ _ _ _ (List.set _ 2 (sl _ _ _ _ (splice _ _ p.cs))) _
 refine WL.nSet ?_
 refine jC (j7 [1] rfl (j6 ?_))
 have hjc : j < css.length := by rw [← hall.len]; exact hj
 have hxc : css[j] = x.cs := by
  have := (hall.nth j hj hjc).1
  rw [this, hgx]
 have hown : OwnL Sg.rep 57 7 I1 (l.set j (x.setPoint q p)) (.slice (some ⟨g, 0, none⟩) l.length c) (sl 57 7 (.slice (some ⟨g, 0, none⟩) l.length c) l.length (splice css.flatten (0 + (j : Int).toNat * 7 + 1 + (q : Int).toNat * 2) p.cs)) := by
  refine ⟨css.set j (x.setPoint q p).cs, ?_, All2.set ⟨rfl, set_ok hx hp q⟩ j hall⟩
  rw [List.length_set, Int.toNat_natCast, Int.toNat_natCast, show 0 + j * 7 + 1 + q * 2 = j * 7 + (1 + q * 2) by omega, flat_splice (by decide) css (fun c hc => All2.lens (R := Sg.rep) hall c hc) j (1 + q * 2) p.cs hjc (by show 1 + q * 2 + 2 ≤ 7; omega), hxc, set_cs x p q hq]
 refine WX.freezeL 2 rfl hown fun I3 hI3 hw => ?_
 refine jK (jc rfl (WL.callR [] rfl rfl rfl (checked_ctr _ _ _ (hN.mono hI3) hw) rfl ?_))
 rintro _ I4 hI4 ⟨w, rfl, hw4⟩
 refine jm (Val.extract rfl rfl) ?_
 refine jm (jq rfl rfl) (WL.val Val.assign rfl ?_)
 refine jf rfl (jM (jR ?_))
 have hJ := hI3.trans hI4
 exact jP [] (jr2 rfl (ResIs.tmp rfl) (jtI rfl)) ⟨rfl, _, rfl, hw4⟩
end Go.Proofs.YtggcpoleklcmkaaGreatDoor
