/-
 Drawings, the plain law: what goes with a node.
-/
import Derived.Test.YtggcpoleklcmkaaGreatDoorX11
import Derived.Test.YtggcpoleklcmkaaGreatDoorX2
import Derived.Test.YtggcpoleklcmkaaGreatDoorX12
import Derived.Test.YtggcpoleklcmkaaGreatDoorX3
import Derived.Test.YtggcpoleklcmkaaGreatDoorX9
set_option linter.unusedVariables false
set_option linter.unusedSimpArgs false
set_option maxRecDepth 100000
set_option maxHeartbeats 8000000
namespace Go.Tr
open Go.Sl Go.Ls
namespace Nd
theorem kids_lt (n : Nd) : Nd.sizes n.kids < n.size := by
 cases n with
 | mk i g ks => rw [Nd.size]; show Nd.sizes ks < 1 + Nd.sizes ks; omega
theorem move_rem {top : Nd} {i p ix : Int} (h : (Nd.move top i p ix).2 = 0) : (Nd.remove top i).2.2.2.2 = 0 := by
 rw [Nd.move] at h
 split at h
 ·rename_i h0; exact absurd h h0
 ·rename_i h0; exact Decidable.of_not_not h0
theorem unwrap_rem {top : Nd} {i : Int} (h : (Nd.unwrap top i).2.2.2.2 = 0) : (Nd.remove top i).2.2.2.2 = 0 := by
 rw [Nd.unwrap] at h
 split at h
 ·rename_i h0; exact absurd h h0
 ·rename_i h0; exact Decidable.of_not_not h0
end Nd
section
variable {A : Ar} {top : Nd}
open Nd
theorem i64nat {k : Nat} (h : k ≤ 1000000) : I64 (k : Int) := ⟨by show (-9223372036854775808 : Int) ≤ _; omega, by show _ ≤ (9223372036854775807 : Int); omega⟩
theorem Abs.rem_small (hA : Abs A top) {i : Int} (h : (Nd.remove top i).2.2.2.2 = 0) : I64 (Nd.remove top i).2.2.1 ∧ I64 (Nd.remove top i).2.2.2.1 ∧ (Nd.remove top i).2.1.size ≤ 100000 ∧ Nd.whr i top = some ((Nd.remove top i).2.2.1, (Nd.remove top i).2.2.2.1) := by
 have hs := hA.size_le
 rcases hA.rem i with ⟨h0, _⟩ | ⟨p, k, hk, hi, hid, hfi, hw, hf, e, o1, o2, o3⟩
 ·exact absurd h h0
 ·rw [e]
  have h1 := Nd.find_size i _ _ hfi
  have h2 := Nd.find_size p.id _ _ hf
  have h3 := Nd.len_le_sizes p.kids
  have h4 := Nd.kids_lt p
  refine ⟨hA.i64 _ ?_, i64nat (by omega), by show (p.kids[k]).size ≤ _; omega, hw⟩
  exact (find_some p.id top).1 (by rw [hf]; rfl)
theorem Abs.unwrap_small (hA : Abs A top) {i : Int} (h : (Nd.unwrap top i).2.2.2.2 = 0) : I64 (Nd.unwrap top i).2.1 ∧ I64 (Nd.unwrap top i).2.2.1 ∧ I64 (Nd.unwrap top i).2.2.2.1 := by
 obtain ⟨h1, h2, h3, _⟩ := hA.rem_small (unwrap_rem h)
 rw [Nd.unwrap] at h ⊢
 split at h
 ·rename_i h0; exact absurd h h0
 rename_i h0
 rw [if_neg h0]
 split at h
 ·exact absurd h (by show ¬ (33 : Int) = 0; decide)
 rename_i hg
 rw [if_neg hg]
 have h5 := Nd.len_le_sizes (Nd.remove top i).2.1.kids
 have h6 := Nd.kids_lt (Nd.remove top i).2.1
 exact ⟨h1, h2, i64nat (by omega)⟩
end
end Go.Tr
namespace Go.Dc
open Go.Sl Go.Ls Go.Tr
theorem dom_move {at_ : Int → Option Atr} {o o' : List Int} (hdom : ∀ i, (at_ i).isSome = true ↔ i ≠ 0 ∧ i ∈ o) (hc : ∀ x, o'.count x = o.count x) : ∀ i, (at_ i).isSome = true ↔ i ≠ 0 ∧ i ∈ o' := by
 intro i
 rw [hdom i, mem_count, mem_count, hc i]
theorem dom_unwrap {at_ : Int → Option Atr} {o o' : List Int} {j : Int} (hdom : ∀ i, (at_ i).isSome = true ↔ i ≠ 0 ∧ i ∈ o) (hn : o.Nodup) (hc : ∀ x, o'.count x + (if j = x then 1 else 0) = o.count x) : ∀ i, (downAt at_ j i).isSome = true ↔ i ≠ 0 ∧ i ∈ o' := by
 intro i
 have h1 := hc i
 have h2 := nodup_count hn i
 rw [downAt, mem_count]
 by_cases h : i = j
 ·subst h
  rw [if_pos rfl] at h1 ⊢
  constructor
  ·intro h; cases h
  ·rintro ⟨_, h3⟩; omega
 ·rw [if_neg h, hdom i, mem_count]
  rw [if_neg (fun e => h e.symm)] at h1
  rw [← h1, Nat.add_zero]
theorem dropAll_some : ∀ (l : List Ent) (f : Int → Option Atr) (i : Int), (dropAll f l i).isSome = true ↔ (f i).isSome = true ∧ i ∉ l.map Ent.id
 | [], f, i => by simp [dropAll]
 | x :: l, f, i => by
  rw [dropAll, dropAll_some l, downAt, List.map_cons, List.mem_cons]
  by_cases h : i = x.id
  ·simp [h]
  ·simp [h]
theorem dropAll_of : ∀ (l : List Ent) (f : Int → Option Atr) (i : Int) (a : Atr), dropAll f l i = some a → f i = some a
 | [], f, i, a, h => h
 | x :: l, f, i, a, h => by
  rw [dropAll] at h
  have h := dropAll_of l _ i a h
  rw [downAt] at h
  split at h
  ·cases h
  ·exact h
theorem dropAll_snoc : ∀ (l : List Ent) (f : Int → Option Atr) (x : Ent), dropAll f (l ++ [x]) = downAt (dropAll f l) x.id
 | [], f, x => rfl
 | y :: l, f, x => by rw [List.cons_append, dropAll, dropAll, dropAll_snoc l]
theorem dom_remove {at_ : Int → Option Atr} {o o' m : List Int} {l : List Ent} (hdom : ∀ i, (at_ i).isSome = true ↔ i ≠ 0 ∧ i ∈ o) (hn : o.Nodup) (hm : l.map Ent.id = m) (hc : ∀ x, o'.count x + m.count x = o.count x) : ∀ i, (dropAll at_ l i).isSome = true ↔ i ≠ 0 ∧ i ∈ o' := by
 intro i
 have h1 := hc i
 have h2 := nodup_count hn i
 rw [dropAll_some, hm, hdom i]
 simp only [mem_count]
 omega
theorem ents_ids (at_ : Int → Atr) (n : Nd) : (ents at_ n).map Ent.id = n.order := by
 refine Nd.rec (motive_1 := fun n => (ents at_ n).map Ent.id = n.order) (motive_2 := fun l => (entss at_ l).map Ent.id = Nd.orders l) ?_ ?_ ?_ n
 ·intro i g ks h
  rw [ents, Nd.order, List.map_cons, h]
 ·rw [entss, Nd.orders]; rfl
 ·intro k ks h1 h2
  rw [entss, Nd.orders, List.map_append, h1, h2]
theorem ents_atr {at_ : Int → Atr} {n : Nd} {x : Ent} : x ∈ ents at_ n → x.atr = at_ x.id := by
 refine Nd.rec (motive_1 := fun n => x ∈ ents at_ n → x.atr = at_ x.id) (motive_2 := fun l => x ∈ entss at_ l → x.atr = at_ x.id) ?_ ?_ ?_ n
 ·intro i g ks h hx
  rw [ents] at hx
  rcases List.mem_cons.1 hx with rfl | hx
  ·rfl
  ·exact h hx
 ·intro hx; rw [entss] at hx; cases hx
 ·intro k ks h1 h2 hx
  rw [entss] at hx
  rcases List.mem_append.1 hx with hx | hx
  ·exact h1 hx
  ·exact h2 hx
theorem segsOf_nonneg : ∀ l : List Ent, 0 ≤ segsOf l
 | [] => Int.le_refl _
 | x :: l => by
  have := segsOf_nonneg l
  show 0 ≤ (x.atr.path.length : Int) + segsOf l
  omega
theorem segsOf_le {m : Nat} : ∀ {l : List Ent}, (∀ x ∈ l, x.atr.path.length ≤ m) → segsOf l ≤ l.length * m
 | [], _ => by show (0 : Int) ≤ _; simp
 | x :: l, h => by
  have h1 := segsOf_le (l := l) fun y hy => h y (.tail _ hy)
  have h2 := h x (.head _)
  show (x.atr.path.length : Int) + segsOf l ≤ _
  rw [List.length_cons, Int.natCast_add, Int.add_mul]
  omega
theorem AtRep.down {I : Mem} {at_ : Int → Option Atr} {f : Int → Option Value} (h : AtRep I at_ f) (j : Int) : AtRep I (downAt at_ j) (Sl.del f j) := fun i => by
 rw [downAt, Sl.del]
 by_cases hi : i = j
 ·rw [if_pos hi, if_pos hi]
  exact .inl ⟨rfl, rfl⟩
 ·rw [if_neg hi, if_neg hi]
  exact h i
theorem lim_down {at_ : Int → Option Atr} (h : ∀ i a, at_ i = some a → a.lim) (j : Int) : ∀ i a, downAt at_ j i = some a → a.lim := fun i a ha => by
 rw [downAt] at ha
 split at ha
 ·cases ha
 ·exact h i a ha
end Go.Dc

namespace Go.Proofs.YtggcpoleklcmkaaGreatDoor
open Go.Sl Go.Ls Go.Tr Go.Dc
attribute [local irreducible] WC WL WX WK WA WAK Val Ctr RunRes ResIs Rd At sl box pt Exit.then Exit.inBlock bodyPost Code.wp wpList
theorem whr_v (r : Option (Int × Int)) : ∃ b, whrV r = .tuple #[vi (r.getD (0, 0)).1, vi (r.getD (0, 0)).2, .bool b] := by
 cases r with
 | none => exact ⟨false, rfl⟩
 | some q => exact ⟨true, rfl⟩
theorem dMove (D : Dm) (d : Dr) (c : Cm) (e t u dd q : Value) (I : Mem) (hD : DAbs I D d) (hc : c.at_ I e t u dd q) :
  Ctr Tryz.prog 68 [ptr D.b, .agg (c.cs e t u dd q).toArray] I D.hp (ApplyR (d.move c) D) := by
 obtain ⟨x0, y0, x1, y1, x2, y2, x3, y3, x4, y4, rfl, rfl, rfl, rfl, rfl⟩ := hc.sl
 obtain ⟨wb, hw⟩ := whr_v (Nd.whr c.id d.top)
 have hmv : d.move c = if (Nd.move d.top c.id c.parent c.index).2 ≠ 0 then (d, Cm.z, (Nd.move d.top c.id c.parent c.index).2) else ({ d with top := (Nd.move d.top c.id c.parent c.index).1 }, { Cm.z with kind := 3, id := c.id, parent := ((Nd.whr c.id d.top).getD (0, 0)).1, index := ((Nd.whr c.id d.top).getD (0, 0)).2 }, 0) := by
  rw [Dr.move]
 rw [hmv]
 clear hmv
 refine Ctr.intro Tryz.func68 rfl rfl rfl fun E F => ?_
 refine jS (WL.boxA rfl rfl (fun _ => ?_))
 refine jW ?_
 refine WL.alloc rfl (fun _ => ?_)
 refine jW ?_
 refine jf rfl (jM (jB ?_))
 rename_i g3 g4
 refine j8 999 [1, 7] rfl (jT 0 rfl (Val.moveP rfl) (jT 1 rfl (jr rfl) (jT 2 rfl (jn rfl) (jT 3 rfl (jp 0 rfl rfl rfl) (jT 4 rfl (jn rfl) (jT 5 rfl (jp 1 rfl rfl rfl) (j5 6 rfl (WL.callK [3, 3, 3, 3, 3] rfl rfl rfl (aWhere D.A d.top hD.abs c.id _) rfl ?_))))))))
 rintro _ rfl
 rw [hw]
 refine jC (j7 [1, 7] rfl (jT 7 rfl (Val.moveT rfl) (jT 8 rfl (jq rfl rfl) (jT 9 rfl (jq rfl rfl) (jT 10 rfl (Val.extractB rfl rfl) (jT 11 rfl (Val.assignI rfl) (jT 12 rfl (Val.assignI rfl) (jT 13 rfl (Val.assignB rfl) (j6 (jA (jB (jB (j8 999 [1, 7] rfl (jT 0 rfl (Val.moveP rfl) (jT 1 rfl (jr rfl) (jT 2 rfl (jn rfl) (jT 3 rfl (jp 0 rfl rfl rfl) (jT 4 rfl (jn rfl) (jT 5 rfl (jp 1 rfl rfl rfl) (jT 6 rfl (jn rfl) (jT 7 rfl (jp 1 rfl rfl rfl) (jT 8 rfl (jn rfl) (jT 9 rfl (jp 1 rfl rfl rfl) (j5 10 rfl (WL.callP [3, 3, 3, 3, 3] rfl rfl (tMove D.A d.top hD.abs c.id c.parent c.index _) rfl ?_)))))))))))))))))))))))))
 rintro _ I1 _ hI1 ⟨rfl, B, hb, rfl, hB⟩
 refine jW ?_
 refine jC (j9 [1, 2] (hI1) rfl (jT 11 rfl (Val.assignI rfl) (j6 ?_)))
 rw [← hb]
 by_cases h2 : (Nd.move d.top c.id c.parent c.index).2 = 0
 case neg =>
  rw [if_pos h2]
  refine jK (ja rfl (jJ rfl rfl (jM (jF (jS (jm (Val.build0) ?_))))))
  refine ja rfl (WL.stA 4 rfl rfl rfl rfl ?_)
  refine jf rfl (jM (jR (jU ?_)))
  refine jP [0, 0, 2, 2, 2, 2, 2] (jr2 rfl (jcL 4 rfl rfl rfl) (jtI rfl)) ?_
  rw [Nd.move_err h2] at hB
  exact ⟨{ D with A := B }, _, rfl, Cm.z_rep _, rfl, rfl, ⟨hB, hD.rep.mono hI1, hD.segs, hD.dom, hD.lim⟩⟩
 rw [if_neg (fun e => e h2)]
 obtain ⟨r1, r2, _, r4⟩ := hD.abs.rem_small (Nd.move_rem h2)
 refine jK (ja rfl (jz rfl rfl (jM (jE (jV (jK (jm (jn rfl) (jm (jp 3 rfl rfl rfl) (ja rfl (ja rfl (jm (Val.build (cs := (Cm.cs { Cm.z with kind := 3, id := c.id, parent := ((Nd.whr c.id d.top).getD (0, 0)).1, index := ((Nd.whr c.id d.top).getD (0, 0)).2 } (.slice none 0 0) (.slice none 0 0) (.slice none 0 0) (.slice none 0 0) (.slice none 0 0))) rfl) ?_)))))))))))
 refine WL.stA 4 rfl rfl rfl rfl ?_
 refine jf rfl (jM (jR ?_))
 refine jP [0, 0, 2, 2, 2, 2, 2] (jr2 rfl (jcL 4 rfl rfl rfl) (jtI rfl)) ?_
 refine ⟨{ D with A := B }, _, rfl, ⟨_, _, _, _, _, rfl, (⟨by decide, by decide⟩ : I64 3), hc.id, ?_, ?_, i64z, i64z, i64z, LsAt.nil _ _, Atr.z_at _, Sg.z_ok, Pt.z_ok⟩, rfl, rfl, ⟨hB, hD.rep.mono hI1, hD.segs, dom_move hD.dom (hD.abs.count_move h2), hD.lim⟩⟩
 ·rw [r4]; exact r1
 ·rw [r4]; exact r2
theorem dUnwrap (D : Dm) (d : Dr) (c : Cm) (e t u dd q : Value) (I : Mem) (hD : DAbs I D d) (hc : c.at_ I e t u dd q) :
  Ctr Tryz.prog 70 [ptr D.b, .agg (c.cs e t u dd q).toArray] I D.hp (ApplyR (d.unwrap c) D) := by
 obtain ⟨x0, y0, x1, y1, x2, y2, x3, y3, x4, y4, rfl, rfl, rfl, rfl, rfl⟩ := hc.sl
 obtain ⟨ta, ua, da, qa, hv, haa⟩ := hD.rep.get c.id
 have hmv : d.unwrap c = if (Nd.unwrap d.top c.id).2.2.2.2 ≠ 0 then (d, Cm.z, (Nd.unwrap d.top c.id).2.2.2.2) else (⟨(Nd.unwrap d.top c.id).1, downAt d.at_ c.id, d.segs⟩, { Cm.z with kind := 4, id := c.id, parent := (Nd.unwrap d.top c.id).2.1, index := (Nd.unwrap d.top c.id).2.2.1, count := (Nd.unwrap d.top c.id).2.2.2.1, atr := (d.at_ c.id).getD Atr.z }, 0) := by
  rw [Dr.unwrap]; rfl
 rw [hmv]
 clear hmv
 generalize (d.at_ c.id).getD Atr.z = a at hv haa ⊢
 have haa0 := haa
 obtain ⟨a1, c1, a2, c2, a3, c3, a4, c4, rfl, rfl, rfl, rfl⟩ := haa.sl
 refine Ctr.intro Tryz.func70 rfl rfl rfl fun E F => ?_
 refine jS (WL.boxA rfl rfl (fun _ => ?_))
 refine jW ?_
 refine WL.alloc rfl (fun _ => ?_)
 refine jW ?_
 refine jf rfl (jM (jB ?_))
 rename_i g3 g4
 refine j8 999 [1, 7] rfl (jT 0 rfl (Val.moveP rfl) (jT 1 rfl (jr rfl) (jT 2 rfl (jn rfl) (jT 3 rfl (jp 0 rfl rfl rfl) (jT 4 rfl (jn rfl) (jT 5 rfl (jp 1 rfl rfl rfl) (j5 6 rfl (WL.callP [3, 3, 3, 3, 3] rfl rfl (tUnwrap D.A d.top hD.abs c.id _) rfl ?_))))))))
 rintro _ I1 _ hI1 ⟨_, B, rfl, hb, rfl, hB⟩
 refine jW ?_
 refine jC (j9 [1, 2] (hI1) rfl (jT 7 rfl (Val.moveT rfl) (jT 8 rfl (jq rfl rfl) (jT 9 rfl (jq rfl rfl) (jT 10 rfl (jq rfl rfl) (jT 11 rfl (jq rfl rfl) (jT 12 rfl (Val.assignI rfl) (jT 13 rfl (Val.assignI rfl) (jT 14 rfl (Val.assignI rfl) (jT 15 rfl (Val.assignI rfl) (j6 ?_)))))))))))
 rw [← hb]
 by_cases h2 : (Nd.unwrap d.top c.id).2.2.2.2 = 0
 case neg =>
  rw [if_pos h2]
  refine jA (jB (jS (ja rfl (jJ rfl rfl (jM (jF (jS (jm (Val.build0) ?_))))))))
  refine ja rfl (WL.stA 4 rfl rfl rfl rfl ?_)
  refine jf rfl (jM (jR (jU ?_)))
  refine jP [0, 0, 2, 2, 2, 2, 2] (jr2 rfl (jcL 4 rfl rfl rfl) (jtI rfl)) ?_
  rw [Nd.unwrap_err h2] at hB
  exact ⟨{ D with A := B }, _, rfl, Cm.z_rep _, rfl, rfl, ⟨hB, hD.rep.mono hI1, hD.segs, hD.dom, hD.lim⟩⟩
 rw [if_neg (fun e => e h2)]
 obtain ⟨r1, r2, r3⟩ := hD.abs.unwrap_small h2
 refine jA (jB (jS (ja rfl (jz rfl rfl (jM (jE (jV (jA (jB (j8 999 [1, 1, 1] rfl (jT 0 rfl (Val.moveP rfl) (jT 1 rfl (jr rfl) (jT 2 rfl (jn rfl) (jT 3 rfl (jp 0 rfl rfl rfl) (jT 4 rfl (jn rfl) (jT 5 rfl (jp 2 rfl rfl rfl) (jT 6 rfl (Val.lookup1v 1 hv rfl rfl rfl) ?_)))))))))))))))))
 refine j5 7 rfl (WL.alloc rfl (fun _ => ?_))
 rename_i g10
 refine jW ?_
 refine jC (j7 [1, 1, 1] rfl (j5 8 rfl (WL.stA 10 rfl rfl rfl rfl ?_)))
 refine jC (j7 [1, 1, 1] rfl (j6 (jA (jB (j8 999 [1, 2] rfl (jT 0 rfl (Val.moveP rfl) (jT 1 rfl (jr rfl) (jT 2 rfl (jn rfl) (jT 3 rfl (jp 0 rfl rfl rfl) (jT 4 rfl (jn rfl) (jT 5 rfl (jp 1 rfl rfl rfl) (j5 6 rfl (WL.delete 2 rfl rfl rfl ?_)))))))))))))
 refine WL.nSet ?_
 refine jC (j7 [1, 2] rfl (j6 (jK (jm (jn rfl) (jm (jp 3 rfl rfl rfl) (ja rfl (ja rfl (ja rfl (jm (jt 10 rfl rfl rfl) (jm (Val.build (cs := (Cm.cs { Cm.z with kind := 4, id := c.id, parent := (Nd.unwrap d.top c.id).2.1, index := (Nd.unwrap d.top c.id).2.2.1, count := (Nd.unwrap d.top c.id).2.2.2.1, atr := a } (.slice none 0 0) (.slice a1 a.sty.fill.stops.length c1) (.slice a2 a.sty.pen.stops.length c2) (.slice a3 a.sty.dash.length c3) (.slice a4 a.path.length c4))) rfl) ?_))))))))))
 refine WL.stA 4 rfl rfl rfl rfl ?_
 refine jf rfl (jM (jR ?_))
 exact jP [0, 0, 2, 2, 2, 2, 2] (jr2 rfl (jcL 4 rfl rfl rfl) (jtI rfl)) ⟨{ D with A := B, f := Sl.del D.f c.id, cnt := _ }, _, rfl, ⟨_, _, _, _, _, rfl, (⟨by decide, by decide⟩ : I64 4), hc.id, r1, r2, r3, i64z, i64z, LsAt.nil _ _, haa0.mono hI1, Sg.z_ok, Pt.z_ok⟩, rfl, rfl, ⟨hB, (hD.rep.mono hI1).down _, hD.segs, dom_unwrap hD.dom hD.abs.od (hD.abs.count_unwrap h2), lim_down hD.lim _⟩⟩
theorem dRemove (D : Dm) (d : Dr) (c : Cm) (e t u dd q : Value) (I : Mem) (hD : DAbs I D d) (hc : c.at_ I e t u dd q) (hs0 : 0 ≤ d.segs) (hs1 : d.segs ≤ 1048576) :
  Ctr Tryz.prog 67 [ptr D.b, .agg (c.cs e t u dd q).toArray] I D.hp (ApplyR (d.remove c) D) := by
 obtain ⟨x0, y0, x1, y1, x2, y2, x3, y3, x4, y4, rfl, rfl, rfl, rfl, rfl⟩ := hc.sl
 have hmv : d.remove c = if (Nd.remove d.top c.id).2.2.2.2 ≠ 0 then (d, Cm.z, (Nd.remove d.top c.id).2.2.2.2) else (⟨(Nd.remove d.top c.id).1, dropAll d.at_ (ents (fun i => (d.at_ i).getD Atr.z) (Nd.remove d.top c.id).2.1), d.segs - segsOf (ents (fun i => (d.at_ i).getD Atr.z) (Nd.remove d.top c.id).2.1)⟩, { Cm.z with kind := 1, parent := (Nd.remove d.top c.id).2.2.1, index := (Nd.remove d.top c.id).2.2.2.1, ents := ents (fun i => (d.at_ i).getD Atr.z) (Nd.remove d.top c.id).2.1 }, 0) := by
  rw [Dr.remove]; rfl
 rw [hmv]
 clear hmv
 refine Ctr.intro Tryz.func67 rfl rfl rfl fun E F => ?_
 refine jS (WL.boxA rfl rfl (fun _ => ?_))
 refine jW ?_
 refine WL.alloc rfl (fun _ => ?_)
 refine jW ?_
 refine jf rfl (jM (jB ?_))
 rename_i g3 g4
 refine WC.cutP (fun ρ' I' L' => ∃ (kv : Value) (B : Ar) (g6 : Nat), I.le I' ∧ B.b = D.A.b ∧ Abs B (Nd.remove d.top c.id).1 ∧ LsAt Nd.Rp I' (Nd.remove d.top c.id).2.1.kids kv ∧ I64 (Nd.remove d.top c.id).2.1.id ∧
  ρ' 0 = ptr D.b ∧ ρ' 3 = ptr g3 ∧ ρ' 4 = ptr g4 ∧ ρ' 6 = ptr g6 ∧ ρ' 7 = vi (Nd.remove d.top c.id).2.2.1 ∧ ρ' 8 = vi (Nd.remove d.top c.id).2.2.2.1 ∧ ρ' 9 = vi (Nd.remove d.top c.id).2.2.2.2 ∧
  L' = [sts B.hp, F, docBox D.b D.A.b D.mb D.segs, mp D.mb D.f D.cnt, box g3 59 (c.cs (.slice x0 c.ents.length y0) (.slice x1 c.atr.sty.fill.stops.length y1) (.slice x2 c.atr.sty.pen.stops.length y2) (.slice x3 c.atr.sty.dash.length y3) (.slice x4 c.atr.path.length y4)), box g4 59 (Cm.cs Cm.z (.slice none 0 0) (.slice none 0 0) (.slice none 0 0) (.slice none 0 0) (.slice none 0 0)), box g6 72 [vi (Nd.remove d.top c.id).2.1.id, .bool (Nd.remove d.top c.id).2.1.grp, kv]]) ?_ ?_
 ·skip
  refine j8 999 [1, 7] rfl (jT 0 rfl (Val.moveP rfl) (jT 1 rfl (jr rfl) (jT 2 rfl (jn rfl) (jT 3 rfl (jp 0 rfl rfl rfl) (jT 4 rfl (jn rfl) (jT 5 rfl (jp 1 rfl rfl rfl) ?_))))))
  refine jee 6 12 rfl rfl ?_ ?_
  ·refine WL.callP [3, 3, 3, 3, 3] rfl rfl (tRemove D.A d.top hD.abs c.id _) rfl ?_
   rintro _ I1 _ hI1 ⟨_, B, rfl, ⟨kv, rfl, hkv, hid⟩, hb, rfl, hB⟩
   obtain ⟨ka, kc, rfl⟩ := hkv.sl
   refine jW ?_
   refine jC (j9 [1, 2] (hI1) rfl (jT 7 rfl (Val.moveT rfl) (jT 8 rfl (Val.extractA rfl rfl) (jT 9 rfl (jq rfl rfl) (jT 10 rfl (jq rfl rfl) (jT 11 rfl (jq rfl rfl) (j5 12 rfl (WL.alloc rfl (fun _ => ?_)))))))))
   rename_i g6
   refine jW ?_
   refine jC (j9 [1, 2] (hI1) rfl (j5 13 rfl (WL.stA 10 rfl rfl rfl rfl ?_)))
   refine jC (j9 [1, 2] (hI1) rfl (jT 14 rfl (Val.assignI rfl) (jT 15 rfl (Val.assignI rfl) (jT 16 rfl (Val.assignI rfl) (j6 (WX.conv (fun w h => Sat.fold B.hp (h.sub [5, 5, 5, 5, 5, 0, 0, 0, 0, 0, 0] rfl)) ?_))))))
   refine WX.thenK (WK.meet ?_)
   exact ⟨_, B, g6, hI1, hb, hB, hkv, hid, rfl, rfl, rfl, rfl, rfl, rfl, rfl, rfl⟩
  ·skip
   refine WL.alloc rfl (fun _ => ?_)
   rename_i g6
   refine jW ?_
   refine jC (j7 [1, 7] rfl (j5 6 rfl (WL.callP [3, 3, 3, 3, 3] rfl rfl (tRemove D.A d.top hD.abs c.id _) rfl ?_)))
   rintro _ I1 _ hI1 ⟨_, B, rfl, ⟨kv, rfl, hkv, hid⟩, hb, rfl, hB⟩
   obtain ⟨ka, kc, rfl⟩ := hkv.sl
   refine jW ?_
   refine jC (j9 [1, 2] (hI1) rfl (jT 7 rfl (Val.moveT rfl) (jT 8 rfl (Val.extractA rfl rfl) (jT 9 rfl (jq rfl rfl) (jT 10 rfl (jq rfl rfl) (jT 11 rfl (jq rfl rfl) (j5 13 rfl (WL.stA 5 rfl rfl rfl rfl ?_))))))))
   refine jC (j9 [1, 2] (hI1) rfl (jT 14 rfl (Val.assignI rfl) (jT 15 rfl (Val.assignI rfl) (jT 16 rfl (Val.assignI rfl) (j6 (WX.conv (fun w h => Sat.fold B.hp (h.sub [6, 6, 6, 6, 6, 0, 0, 0, 0, 0, 0] rfl)) ?_))))))
   refine WX.thenK (WK.meet ?_)
   exact ⟨_, B, g6, hI1, hb, hB, hkv, hid, rfl, rfl, rfl, rfl, rfl, rfl, rfl, rfl⟩
 rintro ρ' I1 L' ⟨kv, B, g6, hI1, hb, hB, hkv, hid, r0, r3, r4, r6, r7, r8, r9, rfl⟩
 refine ju7 r9 r8 r7 r6 r4 r3 r0 ?_
 rw [← hb]
 by_cases h2 : (Nd.remove d.top c.id).2.2.2.2 = 0
 case neg =>
  rw [if_pos h2]
  have hrt : (Nd.remove d.top c.id).1 = d.top := by
   rcases hD.abs.rem c.id with ⟨_, h⟩ | ⟨p, k, hk, _, _, _, _, _, e, _⟩
   ·exact h
   ·rw [e] at h2; exact absurd rfl h2
  refine jB (jS (ja rfl (jJ rfl rfl (jM (jF (jS (jm (Val.build0) ?_)))))))
  refine ja rfl (WL.stA 5 rfl rfl rfl rfl ?_)
  refine jf rfl (jM (jR (jU (WX.conv (fun w h => (Sat.unfold h).sub [5, 5, 5, 0, 0, 0, 0, 0, 1] rfl) ?_))))
  refine jP [0, 0, 0, 0, 0, 0, 0] (jr2 rfl (jcL 8 rfl rfl rfl) (jtI rfl)) ?_
  rw [hrt] at hB
  exact ⟨{ D with A := B }, _, rfl, Cm.z_rep _, rfl, rfl, ⟨hB, hD.rep.mono hI1, hD.segs, hD.dom, hD.lim⟩⟩
 rw [if_neg (fun e => e h2)]
 obtain ⟨s1, s2, s3, s4⟩ := hD.abs.rem_small h2
 obtain ⟨o1, o2, o3, o4, o5⟩ := hD.abs.rem_nodup h2
 have hcnt := hD.abs.count_rem h2
 generalize (Nd.remove d.top c.id).1 = top' at *
 generalize (Nd.remove d.top c.id).2.1 = nd at *
 generalize (Nd.remove d.top c.id).2.2.1 = rp at *
 generalize (Nd.remove d.top c.id).2.2.2.1 = ri at *
 have hkv0 := hkv
 obtain ⟨ka, kc, rfl⟩ := hkv.sl
 refine jB (jS (ja rfl (jz rfl rfl (jM (jE (jV (jK (jd rfl (jm (jt 6 rfl rfl rfl) (WL.callR [2, 2] rfl rfl rfl (entries_ctr d.at_ D.f D.b B.b D.mb D.cnt D.segs hD.lim _ nd (Nat.le_refl _) _ _ (by omega) hkv0 hid (hD.rep.mono hI1)) rfl ?_))))))))))
 rintro v I2 hI2 hv
 have hlen := ents_len (fun i => (d.at_ i).getD Atr.z) nd
 have hids := ents_ids (fun i => (d.at_ i).getD Atr.z) nd
 have hlm : ∀ x ∈ ents (fun i => (d.at_ i).getD Atr.z) nd, x.atr.path.length ≤ 1000000 := fun x hx => by
  rw [ents_atr hx]
  show ((d.at_ x.id).getD Atr.z).path.length ≤ _
  cases h : d.at_ x.id with
  | none => exact Nat.zero_le _
  | some a => exact (hD.lim _ _ h).1
 have hnn := segsOf_nonneg (ents (fun i => (d.at_ i).getD Atr.z) nd)
 generalize ents (fun i => (d.at_ i).getD Atr.z) nd = l at *
 have hv0 := hv
 obtain ⟨la, lc, rfl⟩ := hv.sl
 have hds := hD.segs
 rw [hds]
 refine jh rfl (jM (jB (jS (jc rfl (jm (jo rfl) (ja rfl (jM (WC.block ?_))))))))
 have hJ2 := hI1.trans hI2
 refine WC.loop (fun n ρ' I' L' => ∃ (k : Nat) (f' : Int → Option Value) (cnt' : Nat), n = l.length - k ∧ k ≤ l.length ∧ I' = I2 ∧ ρ' 0 = ptr D.b ∧ ρ' 4 = ptr g4 ∧ ρ' 7 = vi rp ∧ ρ' 8 = vi ri ∧ ρ' 10 = .slice la l.length lc ∧ ρ' 32 = .slice la l.length lc ∧ ρ' 33 = vi l.length ∧ ρ' 34 = vi k ∧
   L' = [sts B.hp, F, docBox D.b B.b D.mb (d.segs - segsOf (l.take k)), mp D.mb f' cnt', box g3 59 (c.cs (.slice x0 c.ents.length y0) (.slice x1 c.atr.sty.fill.stops.length y1) (.slice x2 c.atr.sty.pen.stops.length y2) (.slice x3 c.atr.sty.dash.length y3) (.slice x4 c.atr.path.length y4)), box g4 59 (Cm.cs Cm.z (.slice none 0 0) (.slice none 0 0) (.slice none 0 0) (.slice none 0 0) (.slice none 0 0)), box g6 72 [vi nd.id, .bool nd.grp, .slice ka nd.kids.length kc]] ∧ AtRep I2 (dropAll d.at_ (l.take k)) f')
  l.length ⟨0, D.f, D.cnt, rfl, by omega, rfl, rfl, rfl, rfl, rfl, rfl, rfl, rfl, rfl, by rw [List.take_zero]; show _ = [_, _, docBox _ _ _ (d.segs - 0), _, _, _, _]; rw [Int.sub_zero], hD.rep.mono hJ2⟩ ?_
 rintro n ρ' I3 L' ⟨k, f', cnt', rfl, hk, rfl, r0, r4, r7, r8, r10, r32, r33, r34, rfl, hrep⟩
 refine ju8 r34 r33 r32 r10 r8 r7 r4 r0 ?_
 by_cases hkn : k < l.length
 ·obtain ⟨b, off, cap', cs, he, ⟨t1, t2, t3, t4, rfl, hi⟩, hA⟩ := hv0.get k hkn
  cases he
  have hds2 := dropAll_snoc (l.take k) d.at_ l[k]
  have hss := segsOf_snoc (l.take k) l[k]
  rw [← List.take_succ_eq_append_getElem hkn] at hds2 hss
  have hb1 := segsOf_le (m := 1000000) (l := l.take k) fun x hx => hlm x (List.mem_of_mem_take hx)
  have hb0 := segsOf_nonneg (l.take k)
  rw [List.length_take, Nat.min_eq_left (by omega)] at hb1
  have hlk := hlm _ (List.getElem_mem hkn)
  have hlll : (l.length : Int) ≤ 100000 := by omega
  obtain ⟨b1, d1, b2, d2, b3, d3, b4, d4, rfl, rfl, rfl, rfl⟩ := hi.sl
  generalize l[k] = x at *
  refine jS (jy rfl rfl (jM (jB (jF (jV (jA (jB (WC.block (jS (jm (jZ rfl rfl) (jm (Val.loadI rfl (by assumption) rfl) ?_)))))))))))
  refine WL.alloc rfl (fun _ => ?_)
  refine jW ?_
  refine WL.stA 7 rfl rfl rfl rfl ?_
  refine jM (jB (j8 11 [2, 6] rfl (jT 0 rfl (Val.moveP rfl) (jT 1 rfl (jr rfl) (jT 2 rfl (jn rfl) (jT 3 rfl (jp 0 rfl rfl rfl) (jT 4 rfl (jn rfl) (jT 5 rfl (jn rfl) (jT 6 rfl (jp 1 rfl rfl rfl) (jT 7 rfl (jo rfl) (jT 8 rfl (Val.sub rfl rfl (wrap_i64 (by omega) (by omega))) ?_)))))))))))
  refine j5 9 rfl (jm (jr rfl) (jC (j7 [2, 6] rfl (j5 10 rfl (jm (jn rfl) (jC (j7 [2, 6] rfl (j5 11 rfl (WL.stI 2 rfl rfl rfl rfl ?_)))))))))
  refine jC (WK.anyLast (WA.done (by kernel_rfl) (jA (j8 999 [2, 6] rfl (jT 0 rfl (Val.moveP rfl) (jT 1 rfl (jr rfl) (jT 2 rfl (jn rfl) (jT 3 rfl (jp 0 rfl rfl rfl) (jT 4 rfl (jn rfl) (jT 5 rfl (jp 1 rfl rfl rfl) (j5 6 rfl (WL.delete 3 rfl rfl rfl ?_))))))))))))
  refine WL.nSet ?_
  refine jC (j7 [2, 6] rfl (j6 (WX.inNormal (jA (jD (jX rfl rfl (ja rfl (jC ?_))))))))
  rw [show d.segs - segsOf (l.take k) - (x.atr.path.length : Int) = d.segs - segsOf (l.take (k + 1)) by omega]
  refine WX.conv (fun w h => h.sub [0, 0, 0, 0, 0, 0, 0] rfl) ?_
  refine WX.thenK (WK.round (l.length - (k + 1)) (by omega) ⟨k + 1, _, _, rfl, by omega, rfl, rfl, rfl, rfl, rfl, rfl, rfl, rfl, rfl, rfl, ?_⟩)
  rw [hds2]
  exact hrep.down _
 ·have hkl : k = l.length := by omega
  subst hkl
  rw [List.take_length] at hrep ⊢
  refine jS (jx rfl rfl (jM (jB (jE (WC.exit (WX.thenExit (WX.thenExit (WX.inHit (jK (ja rfl (ja rfl (jc rfl (jm (Val.build (cs := (Cm.cs { Cm.z with kind := 1, parent := rp, index := ri, ents := l } (.slice la l.length lc) (.slice none 0 0) (.slice none 0 0) (.slice none 0 0) (.slice none 0 0))) rfl) ?_)))))))))))))
  refine WL.stA 5 rfl rfl rfl rfl ?_
  refine jf rfl (jM (jR (WX.conv (fun w h => (Sat.unfold h).sub [5, 5, 5, 0, 0, 0, 0, 0, 1] rfl) ?_)))
  exact jP [0, 0, 0, 0, 0, 0, 0] (jr2 rfl (jcL 8 rfl rfl rfl) (jtI rfl)) ⟨{ D with A := B, f := f', cnt := cnt', segs := d.segs - segsOf l }, _, rfl, ⟨_, _, _, _, _, rfl, (⟨by decide, by decide⟩ : I64 1), i64z, s1, s2, i64z, i64z, i64z, hv0, Atr.z_at _, Sg.z_ok, Pt.z_ok⟩, rfl, rfl, ⟨hB, hrep, rfl, dom_remove hD.dom hD.abs.od hids hcnt, fun i a h => hD.lim _ _ (dropAll_of _ _ _ _ h)⟩⟩
theorem dApply (D : Dm) (d : Dr) (c : Cm) (e t u dd q : Value) (I : Mem) (hN : NeedAt I) (hD : DAbs I D d) (hc : c.at_ I e t u dd q) (hle : c.ents.length ≤ 100000) (hs0 : 0 ≤ d.segs) (hs1 : d.segs + segsOf c.ents ≤ 1048576) :
  Ctr Tryz.prog 24 [ptr D.b, .agg (c.cs e t u dd q).toArray] I D.hp (ApplyR (d.apply c) D) := by
 have hc0 := hc
 have hsg := segsOf_nonneg c.ents
 obtain ⟨a0, c0, a1, c1, a2, c2, a3, c3, a4, c4, rfl, rfl, rfl, rfl, rfl⟩ := hc.sl
 refine Ctr.intro Tryz.func24 rfl rfl rfl fun E F => ?_
 by_cases k1 : c.kind = 1
 ·rw [show d.apply c = d.add c by rw [Dr.apply, if_pos k1]]
  refine jS (WL.boxA rfl rfl (fun _ => ?_))
  refine jW ?_
  refine WL.alloc rfl (fun _ => ?_)
  refine jW ?_
  refine jf rfl (jM (jB (jS (jm (jn rfl) (jm (jp 8 rfl rfl rfl) (jM (WC.block (jS (jw rfl rfl (jg rfl (jM (jF (jS (jd rfl (jm (jt 8 rfl rfl rfl) (WL.callP [1, 1, 1, 1, 1, 1, 1] rfl rfl (dAdd D d c _ _ _ _ _ _ hN hD hc0 hle hs0 hs1) rfl ?_))))))))))))))))
  rintro _ I1 _ hI1 ⟨D', bcs, rfl, ⟨e', t', u', d', q', rfl, hbk⟩, hb, rfl, hD'⟩
  have hbk0 := hbk
  obtain ⟨_, _, _, _, _, _, _, _, _, _, rfl, rfl, rfl, rfl, rfl⟩ := hbk.sl
  refine jW ?_
  refine jm (Val.extractA rfl rfl) (jm (jq rfl rfl) (WL.stA 2 rfl rfl rfl rfl ?_))
  refine jf rfl (jM (jR (WX.inRet (jU ?_))))
  exact jP [2, 2, 2, 2, 2, 2, 2] (jr2 rfl (jcL 2 rfl rfl rfl) (jtI rfl)) ⟨D', _, rfl, ⟨_, _, _, _, _, rfl, hbk0⟩, hb, rfl, hD'⟩
 by_cases k2 : c.kind = 2
 ·rw [show d.apply c = d.remove c by rw [Dr.apply, if_neg k1, if_pos k2]]
  refine jS (WL.boxA rfl rfl (fun _ => ?_))
  refine jW ?_
  refine WL.alloc rfl (fun _ => ?_)
  refine jW ?_
  refine jf rfl (jM (jB (jS (jm (jn rfl) (jm (jp 8 rfl rfl rfl) (jM (WC.block (jCf rfl rfl (jS (jw rfl rfl (jg rfl (jM (jF (jS (jd rfl (jm (jt 8 rfl rfl rfl) (WL.callP [1, 1, 1, 1, 1, 1, 1] rfl rfl (dRemove D d c _ _ _ _ _ _ hD hc0 hs0 (by omega)) rfl ?_)))))))))))))))))
  rintro _ I1 _ hI1 ⟨D', bcs, rfl, ⟨e', t', u', d', q', rfl, hbk⟩, hb, rfl, hD'⟩
  have hbk0 := hbk
  obtain ⟨_, _, _, _, _, _, _, _, _, _, rfl, rfl, rfl, rfl, rfl⟩ := hbk.sl
  refine jW ?_
  refine jm (Val.extractA rfl rfl) (jm (jq rfl rfl) (WL.stA 2 rfl rfl rfl rfl ?_))
  refine jf rfl (jM (jR (WX.inRet (jU ?_))))
  exact jP [2, 2, 2, 2, 2, 2, 2] (jr2 rfl (jcL 2 rfl rfl rfl) (jtI rfl)) ⟨D', _, rfl, ⟨_, _, _, _, _, rfl, hbk0⟩, hb, rfl, hD'⟩
 by_cases k3 : c.kind = 3
 ·rw [show d.apply c = d.move c by rw [Dr.apply, if_neg k1, if_neg k2, if_pos k3]]
  refine jS (WL.boxA rfl rfl (fun _ => ?_))
  refine jW ?_
  refine WL.alloc rfl (fun _ => ?_)
  refine jW ?_
  refine jf rfl (jM (jB (jS (jm (jn rfl) (jm (jp 8 rfl rfl rfl) (jM (WC.block (jCf rfl rfl (jCf rfl rfl (jS (jw rfl rfl (jg rfl (jM (jF (jS (jd rfl (jm (jt 8 rfl rfl rfl) (WL.callP [1, 1, 1, 1, 1, 1, 1] rfl rfl (dMove D d c _ _ _ _ _ _ hD hc0) rfl ?_))))))))))))))))))
  rintro _ I1 _ hI1 ⟨D', bcs, rfl, ⟨e', t', u', d', q', rfl, hbk⟩, hb, rfl, hD'⟩
  have hbk0 := hbk
  obtain ⟨_, _, _, _, _, _, _, _, _, _, rfl, rfl, rfl, rfl, rfl⟩ := hbk.sl
  refine jW ?_
  refine jm (Val.extractA rfl rfl) (jm (jq rfl rfl) (WL.stA 2 rfl rfl rfl rfl ?_))
  refine jf rfl (jM (jR (WX.inRet (jU ?_))))
  exact jP [2, 2, 2, 2, 2, 2, 2] (jr2 rfl (jcL 2 rfl rfl rfl) (jtI rfl)) ⟨D', _, rfl, ⟨_, _, _, _, _, rfl, hbk0⟩, hb, rfl, hD'⟩
 by_cases k4 : c.kind = 4
 ·rw [show d.apply c = d.wrap c by rw [Dr.apply, if_neg k1, if_neg k2, if_neg k3, if_pos k4]]
  refine jS (WL.boxA rfl rfl (fun _ => ?_))
  refine jW ?_
  refine WL.alloc rfl (fun _ => ?_)
  refine jW ?_
  refine jf rfl (jM (jB (jS (jm (jn rfl) (jm (jp 8 rfl rfl rfl) (jM (WC.block (jCf rfl rfl (jCf rfl rfl (jCf rfl rfl (jS (jw rfl rfl (jg rfl (jM (jF (jS (jd rfl (jm (jt 8 rfl rfl rfl) (WL.callP [1, 1, 1, 1, 1, 1, 1] rfl rfl (dWrap D d c _ _ _ _ _ _ hN hD hc0) rfl ?_)))))))))))))))))))
  rintro _ I1 _ hI1 ⟨D', bcs, rfl, ⟨e', t', u', d', q', rfl, hbk⟩, hb, rfl, hD'⟩
  have hbk0 := hbk
  obtain ⟨_, _, _, _, _, _, _, _, _, _, rfl, rfl, rfl, rfl, rfl⟩ := hbk.sl
  refine jW ?_
  refine jm (Val.extractA rfl rfl) (jm (jq rfl rfl) (WL.stA 2 rfl rfl rfl rfl ?_))
  refine jf rfl (jM (jR (WX.inRet (jU ?_))))
  exact jP [2, 2, 2, 2, 2, 2, 2] (jr2 rfl (jcL 2 rfl rfl rfl) (jtI rfl)) ⟨D', _, rfl, ⟨_, _, _, _, _, rfl, hbk0⟩, hb, rfl, hD'⟩
 by_cases k5 : c.kind = 5
 ·rw [show d.apply c = d.unwrap c by rw [Dr.apply, if_neg k1, if_neg k2, if_neg k3, if_neg k4, if_pos k5]]
  refine jS (WL.boxA rfl rfl (fun _ => ?_))
  refine jW ?_
  refine WL.alloc rfl (fun _ => ?_)
  refine jW ?_
  refine jf rfl (jM (jB (jS (jm (jn rfl) (jm (jp 8 rfl rfl rfl) (jM (WC.block (jCf rfl rfl (jCf rfl rfl (jCf rfl rfl (jCf rfl rfl (jS (jw rfl rfl (jg rfl (jM (jF (jS (jd rfl (jm (jt 8 rfl rfl rfl) (WL.callP [1, 1, 1, 1, 1, 1, 1] rfl rfl (dUnwrap D d c _ _ _ _ _ _ hD hc0) rfl ?_))))))))))))))))))))
  rintro _ I1 _ hI1 ⟨D', bcs, rfl, ⟨e', t', u', d', q', rfl, hbk⟩, hb, rfl, hD'⟩
  have hbk0 := hbk
  obtain ⟨_, _, _, _, _, _, _, _, _, _, rfl, rfl, rfl, rfl, rfl⟩ := hbk.sl
  refine jW ?_
  refine jm (Val.extractA rfl rfl) (jm (jq rfl rfl) (WL.stA 2 rfl rfl rfl rfl ?_))
  refine jf rfl (jM (jR (WX.inRet (jU ?_))))
  exact jP [2, 2, 2, 2, 2, 2, 2] (jr2 rfl (jcL 2 rfl rfl rfl) (jtI rfl)) ⟨D', _, rfl, ⟨_, _, _, _, _, rfl, hbk0⟩, hb, rfl, hD'⟩
 by_cases k6 : 6 ≤ c.kind ∧ c.kind ≤ 12
 ·rw [show d.apply c = d.set c by rw [Dr.apply, if_neg k1, if_neg k2, if_neg k3, if_neg k4, if_neg k5, if_pos k6]]
  obtain ⟨k6, k12⟩ := k6
  have hk : c.kind = 6 ∨ c.kind = 7 ∨ c.kind = 8 ∨ c.kind = 9 ∨ c.kind = 10 ∨ c.kind = 11 ∨ c.kind = 12 := by omega
  rcases hk with hk | hk | hk | hk | hk | hk | hk
  ·skip
   refine jS (WL.boxA rfl rfl (fun _ => ?_))
   refine jW ?_
   refine WL.alloc rfl (fun _ => ?_)
   refine jW ?_
   refine jf rfl (jM (jB (jS (jm (jn rfl) (jm (jp 8 rfl rfl rfl) (jM (WC.block (jCf rfl rfl (jCf rfl rfl (jCf rfl rfl (jCf rfl rfl (jCf rfl rfl (jB (jS (jw rfl rfl (jg rfl (jM (jF (jV (jA (jF (jS (jd rfl (jm (jt 8 rfl rfl rfl) (WL.callP [1, 1, 1, 1, 1, 1, 1] rfl rfl (dSet D d c _ _ _ _ _ _ hN hD hc0 (by omega) (by omega) hs0 (by omega)) rfl ?_)))))))))))))))))))))))))
   rintro _ I1 _ hI1 ⟨D', bcs, rfl, ⟨e', t', u', d', q', rfl, hbk⟩, hb, rfl, hD'⟩
   have hbk0 := hbk
   obtain ⟨_, _, _, _, _, _, _, _, _, _, rfl, rfl, rfl, rfl, rfl⟩ := hbk.sl
   refine jW ?_
   refine jm (Val.extractA rfl rfl) (jm (jq rfl rfl) (WL.stA 2 rfl rfl rfl rfl ?_))
   refine jf rfl (jM (jR (WX.inRet (jU ?_))))
   exact jP [2, 2, 2, 2, 2, 2, 2] (jr2 rfl (jcL 2 rfl rfl rfl) (jtI rfl)) ⟨D', _, rfl, ⟨_, _, _, _, _, rfl, hbk0⟩, hb, rfl, hD'⟩
  ·skip
   refine jS (WL.boxA rfl rfl (fun _ => ?_))
   refine jW ?_
   refine WL.alloc rfl (fun _ => ?_)
   refine jW ?_
   refine jf rfl (jM (jB (jS (jm (jn rfl) (jm (jp 8 rfl rfl rfl) (jM (WC.block (jCf rfl rfl (jCf rfl rfl (jCf rfl rfl (jCf rfl rfl (jCf rfl rfl (jB (jCf rfl rfl (jS (jw rfl rfl (jg rfl (jM (jF (jV (jA (jF (jS (jd rfl (jm (jt 8 rfl rfl rfl) (WL.callP [1, 1, 1, 1, 1, 1, 1] rfl rfl (dSet D d c _ _ _ _ _ _ hN hD hc0 (by omega) (by omega) hs0 (by omega)) rfl ?_))))))))))))))))))))))))))
   rintro _ I1 _ hI1 ⟨D', bcs, rfl, ⟨e', t', u', d', q', rfl, hbk⟩, hb, rfl, hD'⟩
   have hbk0 := hbk
   obtain ⟨_, _, _, _, _, _, _, _, _, _, rfl, rfl, rfl, rfl, rfl⟩ := hbk.sl
   refine jW ?_
   refine jm (Val.extractA rfl rfl) (jm (jq rfl rfl) (WL.stA 2 rfl rfl rfl rfl ?_))
   refine jf rfl (jM (jR (WX.inRet (jU ?_))))
   exact jP [2, 2, 2, 2, 2, 2, 2] (jr2 rfl (jcL 2 rfl rfl rfl) (jtI rfl)) ⟨D', _, rfl, ⟨_, _, _, _, _, rfl, hbk0⟩, hb, rfl, hD'⟩
  ·skip
   refine jS (WL.boxA rfl rfl (fun _ => ?_))
   refine jW ?_
   refine WL.alloc rfl (fun _ => ?_)
   refine jW ?_
   refine jf rfl (jM (jB (jS (jm (jn rfl) (jm (jp 8 rfl rfl rfl) (jM (WC.block (jCf rfl rfl (jCf rfl rfl (jCf rfl rfl (jCf rfl rfl (jCf rfl rfl (jB (jCf rfl rfl (jCf rfl rfl (jS (jw rfl rfl (jg rfl (jM (jF (jV (jA (jF (jS (jd rfl (jm (jt 8 rfl rfl rfl) (WL.callP [1, 1, 1, 1, 1, 1, 1] rfl rfl (dSet D d c _ _ _ _ _ _ hN hD hc0 (by omega) (by omega) hs0 (by omega)) rfl ?_)))))))))))))))))))))))))))
   rintro _ I1 _ hI1 ⟨D', bcs, rfl, ⟨e', t', u', d', q', rfl, hbk⟩, hb, rfl, hD'⟩
   have hbk0 := hbk
   obtain ⟨_, _, _, _, _, _, _, _, _, _, rfl, rfl, rfl, rfl, rfl⟩ := hbk.sl
   refine jW ?_
   refine jm (Val.extractA rfl rfl) (jm (jq rfl rfl) (WL.stA 2 rfl rfl rfl rfl ?_))
   refine jf rfl (jM (jR (WX.inRet (jU ?_))))
   exact jP [2, 2, 2, 2, 2, 2, 2] (jr2 rfl (jcL 2 rfl rfl rfl) (jtI rfl)) ⟨D', _, rfl, ⟨_, _, _, _, _, rfl, hbk0⟩, hb, rfl, hD'⟩
  ·skip
   refine jS (WL.boxA rfl rfl (fun _ => ?_))
   refine jW ?_
   refine WL.alloc rfl (fun _ => ?_)
   refine jW ?_
   refine jf rfl (jM (jB (jS (jm (jn rfl) (jm (jp 8 rfl rfl rfl) (jM (WC.block (jCf rfl rfl (jCf rfl rfl (jCf rfl rfl (jCf rfl rfl (jCf rfl rfl (jB (jCf rfl rfl (jCf rfl rfl (jCf rfl rfl (jS (jw rfl rfl (jg rfl (jM (jF (jV (jA (jF (jS (jd rfl (jm (jt 8 rfl rfl rfl) (WL.callP [1, 1, 1, 1, 1, 1, 1] rfl rfl (dSet D d c _ _ _ _ _ _ hN hD hc0 (by omega) (by omega) hs0 (by omega)) rfl ?_))))))))))))))))))))))))))))
   rintro _ I1 _ hI1 ⟨D', bcs, rfl, ⟨e', t', u', d', q', rfl, hbk⟩, hb, rfl, hD'⟩
   have hbk0 := hbk
   obtain ⟨_, _, _, _, _, _, _, _, _, _, rfl, rfl, rfl, rfl, rfl⟩ := hbk.sl
   refine jW ?_
   refine jm (Val.extractA rfl rfl) (jm (jq rfl rfl) (WL.stA 2 rfl rfl rfl rfl ?_))
   refine jf rfl (jM (jR (WX.inRet (jU ?_))))
   exact jP [2, 2, 2, 2, 2, 2, 2] (jr2 rfl (jcL 2 rfl rfl rfl) (jtI rfl)) ⟨D', _, rfl, ⟨_, _, _, _, _, rfl, hbk0⟩, hb, rfl, hD'⟩
  ·skip
   refine jS (WL.boxA rfl rfl (fun _ => ?_))
   refine jW ?_
   refine WL.alloc rfl (fun _ => ?_)
   refine jW ?_
   refine jf rfl (jM (jB (jS (jm (jn rfl) (jm (jp 8 rfl rfl rfl) (jM (WC.block (jCf rfl rfl (jCf rfl rfl (jCf rfl rfl (jCf rfl rfl (jCf rfl rfl (jB (jCf rfl rfl (jCf rfl rfl (jCf rfl rfl (jCf rfl rfl (jS (jw rfl rfl (jg rfl (jM (jF (jV (jA (jF (jS (jd rfl (jm (jt 8 rfl rfl rfl) (WL.callP [1, 1, 1, 1, 1, 1, 1] rfl rfl (dSet D d c _ _ _ _ _ _ hN hD hc0 (by omega) (by omega) hs0 (by omega)) rfl ?_)))))))))))))))))))))))))))))
   rintro _ I1 _ hI1 ⟨D', bcs, rfl, ⟨e', t', u', d', q', rfl, hbk⟩, hb, rfl, hD'⟩
   have hbk0 := hbk
   obtain ⟨_, _, _, _, _, _, _, _, _, _, rfl, rfl, rfl, rfl, rfl⟩ := hbk.sl
   refine jW ?_
   refine jm (Val.extractA rfl rfl) (jm (jq rfl rfl) (WL.stA 2 rfl rfl rfl rfl ?_))
   refine jf rfl (jM (jR (WX.inRet (jU ?_))))
   exact jP [2, 2, 2, 2, 2, 2, 2] (jr2 rfl (jcL 2 rfl rfl rfl) (jtI rfl)) ⟨D', _, rfl, ⟨_, _, _, _, _, rfl, hbk0⟩, hb, rfl, hD'⟩
  ·skip
   refine jS (WL.boxA rfl rfl (fun _ => ?_))
   refine jW ?_
   refine WL.alloc rfl (fun _ => ?_)
   refine jW ?_
   refine jf rfl (jM (jB (jS (jm (jn rfl) (jm (jp 8 rfl rfl rfl) (jM (WC.block (jCf rfl rfl (jCf rfl rfl (jCf rfl rfl (jCf rfl rfl (jCf rfl rfl (jB (jCf rfl rfl (jCf rfl rfl (jCf rfl rfl (jCf rfl rfl (jCf rfl rfl (jS (jw rfl rfl (jg rfl (jM (jF (jV (jA (jF (jS (jd rfl (jm (jt 8 rfl rfl rfl) (WL.callP [1, 1, 1, 1, 1, 1, 1] rfl rfl (dSet D d c _ _ _ _ _ _ hN hD hc0 (by omega) (by omega) hs0 (by omega)) rfl ?_))))))))))))))))))))))))))))))
   rintro _ I1 _ hI1 ⟨D', bcs, rfl, ⟨e', t', u', d', q', rfl, hbk⟩, hb, rfl, hD'⟩
   have hbk0 := hbk
   obtain ⟨_, _, _, _, _, _, _, _, _, _, rfl, rfl, rfl, rfl, rfl⟩ := hbk.sl
   refine jW ?_
   refine jm (Val.extractA rfl rfl) (jm (jq rfl rfl) (WL.stA 2 rfl rfl rfl rfl ?_))
   refine jf rfl (jM (jR (WX.inRet (jU ?_))))
   exact jP [2, 2, 2, 2, 2, 2, 2] (jr2 rfl (jcL 2 rfl rfl rfl) (jtI rfl)) ⟨D', _, rfl, ⟨_, _, _, _, _, rfl, hbk0⟩, hb, rfl, hD'⟩
  ·skip
   refine jS (WL.boxA rfl rfl (fun _ => ?_))
   refine jW ?_
   refine WL.alloc rfl (fun _ => ?_)
   refine jW ?_
   refine jf rfl (jM (jB (jS (jm (jn rfl) (jm (jp 8 rfl rfl rfl) (jM (WC.block (jCf rfl rfl (jCf rfl rfl (jCf rfl rfl (jCf rfl rfl (jCf rfl rfl (jB (jCf rfl rfl (jCf rfl rfl (jCf rfl rfl (jCf rfl rfl (jCf rfl rfl (jCf rfl rfl (jD (jw rfl rfl (jg rfl (jM (jF (jS (jd rfl (jm (jt 8 rfl rfl rfl) (WL.callP [1, 1, 1, 1, 1, 1, 1] rfl rfl (dSet D d c _ _ _ _ _ _ hN hD hc0 (by omega) (by omega) hs0 (by omega)) rfl ?_))))))))))))))))))))))))))))
   rintro _ I1 _ hI1 ⟨D', bcs, rfl, ⟨e', t', u', d', q', rfl, hbk⟩, hb, rfl, hD'⟩
   have hbk0 := hbk
   obtain ⟨_, _, _, _, _, _, _, _, _, _, rfl, rfl, rfl, rfl, rfl⟩ := hbk.sl
   refine jW ?_
   refine jm (Val.extractA rfl rfl) (jm (jq rfl rfl) (WL.stA 2 rfl rfl rfl rfl ?_))
   refine jf rfl (jM (jR (WX.inRet (jU ?_))))
   exact jP [2, 2, 2, 2, 2, 2, 2] (jr2 rfl (jcL 2 rfl rfl rfl) (jtI rfl)) ⟨D', _, rfl, ⟨_, _, _, _, _, rfl, hbk0⟩, hb, rfl, hD'⟩
 ·rw [show d.apply c = (d, Cm.z, 33) by rw [Dr.apply, if_neg k1, if_neg k2, if_neg k3, if_neg k4, if_neg k5, if_neg k6]]
  have hk : c.kind < 1 ∨ 12 < c.kind := by omega
  rcases hk with hk | hk
  ·skip
   refine jS (WL.boxA rfl rfl (fun _ => ?_))
   refine jW ?_
   refine WL.alloc rfl (fun _ => ?_)
   refine jW ?_
   refine jf rfl (jM (jB (jS (jm (jn rfl) (jm (jp 8 rfl rfl rfl) (jM (WC.block (jCf rfl rfl (jCf rfl rfl (jCf rfl rfl (jCf rfl rfl (jCf rfl rfl (jB (jCf rfl rfl (jCf rfl rfl (jCf rfl rfl (jCf rfl rfl (jCf rfl rfl (jCf rfl rfl (jD (jv rfl rfl (jg rfl (jM (jE (jV (WX.inNormal (jK (jm (Val.build0) ?_))))))))))))))))))))))))))))
   refine WL.stA 9 rfl rfl rfl rfl ?_
   refine jf rfl (jM (jR ?_))
   exact jP [0, 0, 0, 0, 0, 0, 0] (jr2 rfl (jcL 9 rfl rfl rfl) (jtI rfl)) ⟨D, _, rfl, Cm.z_rep _, rfl, rfl, hD⟩
  ·skip
   refine jS (WL.boxA rfl rfl (fun _ => ?_))
   refine jW ?_
   refine WL.alloc rfl (fun _ => ?_)
   refine jW ?_
   refine jf rfl (jM (jB (jS (jm (jn rfl) (jm (jp 8 rfl rfl rfl) (jM (WC.block (jCf rfl rfl (jCf rfl rfl (jCf rfl rfl (jCf rfl rfl (jCf rfl rfl (jB (jCf rfl rfl (jCf rfl rfl (jCf rfl rfl (jCf rfl rfl (jCf rfl rfl (jCf rfl rfl (jD (jv rfl rfl (jg rfl (jM (jE (jV (WX.inNormal (jK (jm (Val.build0) ?_))))))))))))))))))))))))))))
   refine WL.stA 9 rfl rfl rfl rfl ?_
   refine jf rfl (jM (jR ?_))
   exact jP [0, 0, 0, 0, 0, 0, 0] (jr2 rfl (jcL 9 rfl rfl rfl) (jtI rfl)) ⟨D, _, rfl, Cm.z_rep _, rfl, rfl, hD⟩
end Go.Proofs.YtggcpoleklcmkaaGreatDoor

namespace Go.Dc
open Go.Sl Go.Ls Go.Tr
structure Re where (id kids : Int) (grp : Bool) deriving DecidableEq
abbrev Re.cs (r : Re) : List Value := [vi r.id, vi r.kids, .bool r.grp]
def Re.rep : Rep Re := fun _ r cs => cs = r.cs ∧ I64 r.id ∧ I64 r.kids
instance : RepMono Re.rep := ⟨fun h _ => h⟩
instance : RepLen Re.rep 3 := ⟨fun h => by rw [h.1]; rfl⟩
def Ent.re (x : Ent) : Re := ⟨x.id, x.kids, x.grp⟩
def zat : Int → Atr := fun _ => Atr.z
def lst (n : Nd) : List Re := (ents zat n).map Ent.re
def lsts (l : List Nd) : List Re := (entss zat l).map Ent.re
theorem ents_re (at_ : Int → Atr) (n : Nd) : (ents at_ n).map Ent.re = lst n := by
 refine Nd.rec (motive_1 := fun n => (ents at_ n).map Ent.re = lst n) (motive_2 := fun l => (entss at_ l).map Ent.re = lsts l) ?_ ?_ ?_ n
 ·intro i g ks h
  rw [lst, ents, ents, List.map_cons, List.map_cons, h]; rfl
 ·rw [lsts, entss, entss]
 ·intro k ks h1 h2
  rw [lsts, entss, entss, List.map_append, List.map_append, h1, h2]; rfl
theorem lst_eq (n : Nd) : lst n = ⟨n.id, n.kids.length, n.grp⟩ :: lsts n.kids := by
 rw [lst, ents_eq]; rfl
theorem lsts_app (a b : List Nd) : lsts (a ++ b) = lsts a ++ lsts b := by rw [lsts, entss_app, List.map_append]; rfl
theorem lsts_one (n : Nd) : lsts [n] = lst n := by rw [lsts, entss, entss, List.append_nil]; rfl
theorem lsts_len (l : List Nd) : (lsts l).length = Nd.sizes l := by rw [lsts, List.length_map, entss_len]
theorem lst_len (n : Nd) : (lst n).length = n.size := by rw [lst, List.length_map, ents_len]
def Cm.small (c : Cm) : Prop := c.ents.length ≤ 40 ∧ c.atr.small ∧ ∀ x ∈ c.ents, x.atr.small
def smallL (l : List Cm) (m : Int) : Prop := (∀ c ∈ l, c.small) ∧ (l.length : Int) ≤ m
end Go.Dc
namespace Go.Proofs.YtggcpoleklcmkaaGreatDoor
open Go.Sl Go.Ls Go.Tr Go.Dc
theorem refs_ctr (l : List Ent) (v : Value) (I : Mem) (hv : LsAt Ent.rep I l v) (hl : l.length ≤ 1000000) : Ctr Tryz.prog 36 [v] I [] (KeepR [] fun w I' => LsAt Re.rep I' (l.map Ent.re) w) := by
 have hv0 := hv
 obtain ⟨a1, c1, rfl⟩ := hv.sl
 refine Ctr.intro Tryz.func36 rfl rfl rfl fun E F => ?_
 refine jS (jh rfl (jN (jh rfl (jM (jB (jS (jc rfl (jm (jo rfl) (ja rfl (jM (WC.block (WC.slNil 132 3 ?_))))))))))))
 refine WC.nApp ?_
 refine WC.loop (fun n ρ' I' L' => ∃ (k : Nat) (a : Option Addr) (c : Nat) (p : HP), n = l.length - k ∧ k ≤ l.length ∧ I' = I ∧ ρ' 3 = .slice a k c ∧ ρ' 6 = .slice a1 l.length c1 ∧ ρ' 7 = vi l.length ∧ ρ' 8 = vi k ∧ L' = [F, p] ∧ OwnL Re.rep 132 3 I ((l.take k).map Ent.re) (.slice a k c) p)
  l.length ⟨0, _, _, _, rfl, by omega, rfl, rfl, rfl, rfl, rfl, rfl, OwnL.nil _ _ _ _⟩ ?_
 rintro n ρ' I0 L' ⟨k, a, c, p, rfl, hk, rfl, r3, r6, r7, r8, rfl, hp⟩
 refine ju4 r8 r7 r6 r3 ?_
 by_cases hkn : k < l.length
 ·obtain ⟨b, off, cap, cs, he, ⟨t, u, d, q, rfl, hx⟩, hA⟩ := hv0.get k hkn
  cases he
  have htk : (l.take (k + 1)).map Ent.re = (l.take k).map Ent.re ++ [(l[k]).re] := by rw [List.take_succ_eq_append_getElem hkn, List.map_append]; rfl
  obtain ⟨b1, d1, b2, d2, b3, d3, b4, d4, rfl, rfl, rfl, rfl⟩ := hx.sl
  have hlk : ((l.take k).map Ent.re).length = k := by rw [List.length_map, List.length_take]; omega
  generalize l[k] = x at *
  refine jS (jy rfl rfl (jM (jB (jF (jV (jA (jB (WC.block (jS (jm (jZ rfl rfl) (jm (Val.loadI rfl (by assumption) rfl) ?_)))))))))))
  refine WL.alloc rfl (fun _ => ?_)
  refine jW ?_
  refine WL.stA 2 rfl rfl rfl rfl ?_
  refine jM (jD (jc rfl (jm (jn rfl) (jm (jp 2 rfl rfl rfl) (jm (jn rfl) (jm (jp 2 rfl rfl rfl) (jm (jn rfl) (jm (jp 2 rfl rfl rfl) (jm (Val.build (cs := (Re.cs x.re)) rfl) ?_)))))))))
  refine WL.buildSlice (by with_unfolding_all exact rfl) rfl (by with_unfolding_all exact rfl) rfl (fun _ => ?_)
  refine jW ?_
  refine WL.appOne (y := x.re) (cs := Re.cs x.re) 1 3 rfl rfl hp rfl rfl ⟨rfl, hx.id, hx.kids⟩ rfl rfl (by rfl) (by decide) (by rw [hlk]; omega) (by rw [hlk]; unfold maxLen; omega) rfl fun aa cc p' hp' => ?_
  refine WL.nSet ?_
  rw [← htk, hlk] at hp'
  rw [hlk]
  exact jh rfl (jC (WX.inNormal (jA (jD (jX rfl rfl (ja rfl (jC (WX.conv (fun w h => h.sub [0, 0] rfl) (WX.thenK (WK.round (l.length - (k + 1)) (by omega) ⟨k + 1, aa, cc, p', rfl, by omega, rfl, rfl, rfl, rfl, rfl, rfl, hp'⟩))))))))))
 ·have hkl : k = l.length := by omega
  subst hkl
  rw [List.take_length] at hp
  refine jS (jx rfl rfl (jM (jB (jE (WC.exit (WX.thenExit (WX.thenExit (WX.inHit (jK (jc rfl (jh rfl (jM (jR (WX.freezeL 1 rfl hp fun I3 hI3 hw => ?_))))))))))))))
  exact jP [] (jr1 rfl (jtS rfl)) ⟨rfl, hw⟩
theorem list_ctr (N : Nat) : ∀ (nd : Nd), nd.size ≤ N → ∀ (kv : Value) (I : Mem), nd.size ≤ 1000000 → LsAt Nd.Rp I nd.kids kv → I64 nd.id →
  Ctr Tryz.prog 72 [.agg #[vi nd.id, .bool nd.grp, kv]] I [] (KeepR [] fun v I' => LsAt Re.rep I' (lst nd) v) := by
 induction N with
 | zero => intro nd h; have := nd.size_pos; omega
 | succ N ih =>
  intro nd hs kv I hb hkv hid
  have hkv0 := hkv
  obtain ⟨ka, kc, rfl⟩ := hkv.sl
  have hsz := sizes_lt nd
  have hll := Nd.len_le_sizes nd.kids
  refine Ctr.intro Tryz.func72 rfl rfl rfl fun E F => ?_
  refine jS (WL.boxA rfl rfl (fun _ => ?_))
  refine jW ?_
  refine jh rfl (jN (jm (jn rfl) (jm (jp 1 rfl rfl rfl) (jm (jn rfl) (jm (jp 1 rfl rfl rfl) (jm (jo rfl) (jm (jn rfl) (jm (jp 1 rfl rfl rfl) (jm (Val.build (cs := (Re.cs ⟨nd.id, nd.kids.length, nd.grp⟩)) rfl) ?_)))))))))
  refine WL.buildSlice (by with_unfolding_all exact rfl) rfl (by with_unfolding_all exact rfl) rfl (fun _ => ?_)
  refine jW ?_
  refine jh rfl (jM (jB (jS (jf rfl (jM (WC.block ?_))))))
  rename_i g1 g3
  have hp0 : OwnL Re.rep 132 3 I [⟨nd.id, nd.kids.length, nd.grp⟩] (.slice (some ⟨g3, 0, none⟩) 1 1) (sl 132 3 (.slice (some ⟨g3, 0, none⟩) 1 1) 1 (Re.cs ⟨nd.id, nd.kids.length, nd.grp⟩)) :=
   ⟨[_], rfl, ⟨rfl, hid, ⟨by show (-9223372036854775808 : Int) ≤ (nd.kids.length : Int); omega, by show (nd.kids.length : Int) ≤ 9223372036854775807; omega⟩⟩, trivial⟩
  refine WC.conv (fun w h => (h.perm (pull 2 _ _ rfl)).box_sl (e := 132) (sz := 3) (n := 1) rfl (by decide)) ?_
  refine WC.loop (fun n ρ' I' L' => ∃ (k : Nat) (a : Option Addr) (c : Nat) (p : HP), n = nd.kids.length - k ∧ k ≤ nd.kids.length ∧ I.le I' ∧ ρ' 1 = ptr g1 ∧ ρ' 3 = .slice a (1 + Nd.sizes (nd.kids.take k)) c ∧ ρ' 4 = vi k ∧
    L' = [p, F, box g1 77 [vi nd.id, .bool nd.grp, .slice ka nd.kids.length kc]] ∧ OwnL Re.rep 132 3 I' (⟨nd.id, nd.kids.length, nd.grp⟩ :: lsts (nd.kids.take k)) (.slice a (1 + Nd.sizes (nd.kids.take k)) c) p)
   nd.kids.length ⟨0, _, _, _, rfl, by omega, Mem.le.refl _, rfl, rfl, rfl, rfl, hp0⟩ ?_
  rintro n ρ' I2 L' ⟨k, a, c, p, rfl, hk, hI2, q1, q3, q4, rfl, hp⟩
  refine ju3 q4 q3 q1 ?_
  by_cases hkn : k < nd.kids.length
  ·obtain ⟨bk, ofk, cak, cs, he, hR, hA⟩ := (hkv.mono hI2).get k hkn
   cases he
   obtain ⟨hik, kv1, rfl, hkv1⟩ := Nd.rep_iff.1 hR
   have hkv10 := hkv1
   obtain ⟨ka1, kc1, rfl⟩ := hkv1.sl
   have hbk := kid_sz hkn
   have hst := Nd.sizes_take nd.kids (k + 1)
   have htk : Nd.sizes (nd.kids.take (k + 1)) = Nd.sizes (nd.kids.take k) + (nd.kids[k]).size := by rw [take1 _ _ hkn, Nd.sizes_app, Nd.sizes, Nd.sizes, Nat.add_zero]
   have hen : lsts (nd.kids.take (k + 1)) = lsts (nd.kids.take k) ++ lst (nd.kids[k]) := by rw [take1 _ _ hkn, lsts_app, lsts_one]
   have hek := lst_len (nd.kids[k])
   have hets := lsts_len (nd.kids.take k)
   refine jB (jS (ja rfl (jm (jn rfl) (jm (jp 2 rfl rfl rfl) (jm (jo rfl) (jy rfl rfl (jM (jF (jV (jA (jB (WC.block (jD (jc rfl (jm (jn rfl) (jm (jp 2 rfl rfl rfl) (ja rfl (jm (jZ rfl rfl) (jm (Val.loadI rfl (by assumption) rfl) ?_)))))))))))))))))))
   refine WL.callR [] rfl rfl rfl (ih _ (kid_lt hs hkn) _ _ (by omega) hkv10 hik) rfl ?_
   rintro v I3 hI3 hv
   refine WL.appL (R := Re.rep) 0 rfl rfl (hp.mono hI3) rfl hv (fun x cs h => by rw [h.1]; rfl) (by rfl) (by decide) (by simp only [List.length_cons, hets, hek]; omega) (by simp only [List.length_cons, hets, hek]; unfold maxLen; omega) rfl fun aa cc p' hp' => ?_
   refine WL.nSet ?_
   have hlen : ((⟨nd.id, nd.kids.length, nd.grp⟩ : Re) :: lsts (nd.kids.take k) ++ lst (nd.kids[k])).length = 1 + Nd.sizes (nd.kids.take (k + 1)) := by
    simp only [List.length_append, List.length_cons, hets, hek]; omega
   rw [hlen] at hp' ⊢
   rw [List.cons_append, ← hen] at hp'
   exact jh rfl (jC (WX.inNormal (jA (jD (ja rfl (jX rfl rfl (jf rfl (jC (WX.thenK (WK.round (nd.kids.length - (k + 1)) (by omega) ⟨k + 1, aa, cc, p', rfl, by omega, hI2.trans hI3, rfl, rfl, rfl, rfl, hp'⟩))))))))))
  ·have : k = nd.kids.length := by omega
   subst this
   rw [List.take_length] at hp ⊢
   refine jB (jS (ja rfl (jm (jn rfl) (jm (jp 2 rfl rfl rfl) (jm (jo rfl) (jx rfl rfl (jM (jE (WC.exit (WX.thenExit (WX.thenExit (WX.inHit (jK (jc rfl (jh rfl (jM (jR (WX.freezeL 0 rfl hp fun I3 hI3 hv => ?_))))))))))))))))))
   have hJ := hI2.trans hI3
   refine jP [] (jr1 rfl (jtS rfl)) ?_
   refine ⟨rfl, ?_⟩
   rw [lst_eq]
   exact hv
end Go.Proofs.YtggcpoleklcmkaaGreatDoor

namespace Go.Dc
open Go.Sl Go.Ls Go.Tr
theorem tk_suf : ∀ (f : Nat), (∀ (l : List Ent) n r, tk f l = some (n, r) → ∃ p, l = p ++ r) ∧ ∀ (k : Nat) (l : List Ent) ns r, tks f k l = some (ns, r) → ∃ p, l = p ++ r := by
 intro f
 induction f with
 | zero =>
  refine ⟨fun l n r h => ?_, fun k l ns r h => ?_⟩
  ·rw [tk] at h; cases h
  ·cases k with
   | zero => rw [tks] at h; cases h; exact ⟨[], rfl⟩
   | succ k => rw [tks] at h; cases h
 | succ f ih =>
  refine ⟨fun l n r h => ?_, fun k l ns r h => ?_⟩
  ·cases l with
   | nil => rw [tk] at h; cases h
   | cons x l =>
    rw [tk] at h
    split at h
    ·cases h
    ·split at h
     ·cases h
     ·rename_i ks rest he
      cases h
      obtain ⟨p, rfl⟩ := ih.2 _ _ _ _ he
      exact ⟨x :: p, rfl⟩
  ·cases k with
   | zero => rw [tks] at h; cases h; exact ⟨[], rfl⟩
   | succ k =>
    rw [tks] at h
    split at h
    ·cases h
    ·rename_i n r1 he
     split at h
     ·cases h
     ·rename_i ns' r2 he2
      cases h
      obtain ⟨p1, rfl⟩ := ih.1 _ _ _ he
      obtain ⟨p2, rfl⟩ := ih.2 _ _ _ _ he2
      exact ⟨p1 ++ p2, by rw [List.append_assoc]⟩
theorem Tks_drop {k : Nat} {l : List Ent} {ns : List Nd} {r : List Ent} (h : Tks k l = some (ns, r)) : r = l.drop (l.length - r.length) := by
 obtain ⟨p, rfl⟩ := (tk_suf _).2 _ _ _ _ h
 rw [List.length_append, Nat.add_sub_cancel, List.drop_left]
def takeR (l : List Ent) : Nd × Int := match Tk l with
 | none => (Nd.zero, 0)
 | some (n, r) => (n, (l.length : Int) - r.length)
theorem takeR_none {l : List Ent} (h : Tk l = none) : takeR l = (Nd.zero, 0) := by rw [takeR, h]
theorem takeR_some {l : List Ent} {n : Nd} {r : List Ent} (h : Tk l = some (n, r)) : takeR l = (n, (l.length : Int) - r.length) := by rw [takeR, h]
end Go.Dc
namespace Go.Proofs.YtggcpoleklcmkaaGreatDoor
open Go.Sl Go.Ls Go.Tr Go.Dc
def TakeR (q : Nd × Int) : Value → Mem → Prop := fun r I' => ∃ kv, r = .tuple #[.agg #[vi q.1.id, .bool q.1.grp, kv], vi q.2] ∧ LsAt Nd.Rp I' q.1.kids kv ∧ I64 q.1.id
theorem take_ctr (N : Nat) : ∀ (l : List Ent), l.length ≤ N → ∀ (v : Value) (I : Mem), LsAt Re.rep I (l.map Ent.re) v → l.length ≤ 1000000 →
  Ctr Tryz.prog 37 [v] I [] (KeepR [] (TakeR (takeR l))) := by
 induction N with
 | zero =>
  intro l hl v I hv hb
  obtain rfl : l = [] := List.eq_nil_of_length_eq_zero (by omega)
  obtain ⟨a1, c1, rfl⟩ := hv.sl
  rw [takeR_none Tk_nil]
  refine Ctr.intro Tryz.func37 rfl rfl rfl fun E F => ?_
  refine jS (WL.alloc rfl (fun _ => ?_))
  refine jW ?_
  refine jf rfl (jM (jB (jS (jc rfl (jm (jo rfl) (jm (Val.eql rfl rfl rfl) ?_))))))
  refine jb rfl (jH (jH (jH (jH (jH (jk rfl (jb rfl (jH (jH (jH (jH (jH (jH (jH (jk rfl (jM (jF (jS (jm (Val.build0) ?_)))))))))))))))))))
  refine WL.stA 1 rfl rfl rfl rfl ?_
  refine jf rfl (jM (jR (jU ?_)))
  exact jP [] (jr2 rfl (jcL 1 rfl rfl rfl) (jtI rfl)) ⟨rfl, _, rfl, LsAt.nil _ _, i64z⟩
 | succ N ih =>
  intro l hlN v I hv hb
  cases l with
  | nil =>
   obtain ⟨a1, c1, rfl⟩ := hv.sl
   rw [takeR_none Tk_nil]
   refine Ctr.intro Tryz.func37 rfl rfl rfl fun E F => ?_
   refine jS (WL.alloc rfl (fun _ => ?_))
   refine jW ?_
   refine jf rfl (jM (jB (jS (jc rfl (jm (jo rfl) (jm (Val.eql rfl rfl rfl) ?_))))))
   refine jb rfl (jH (jH (jH (jH (jH (jk rfl (jb rfl (jH (jH (jH (jH (jH (jH (jH (jk rfl (jM (jF (jS (jm (Val.build0) ?_)))))))))))))))))))
   refine WL.stA 1 rfl rfl rfl rfl ?_
   refine jf rfl (jM (jR (jU ?_)))
   exact jP [] (jr2 rfl (jcL 1 rfl rfl rfl) (jtI rfl)) ⟨rfl, _, rfl, LsAt.nil _ _, i64z⟩
  | cons x r0 =>
   have hv0 := hv
   obtain ⟨b, off, cap, cs, he, ⟨rfl, hi, hk⟩, hA⟩ := hv.get 0 (by simp)
   subst he
   simp only [List.map_cons, List.getElem_cons_zero] at hA hi hk
   rw [List.length_map] at hv hv0 ⊢
   have hll : (x :: r0).length = r0.length + 1 := rfl
   rw [hll] at hv hv0 ⊢
   have hcp := hv0.cap
   rw [List.length_map, hll] at hcp
   have hA0 : At I b (off + (0 : Int).toNat * 3) [vi x.id] := hA.zero rfl
   have hA1 : At I b (off + (0 : Int).toNat * 3 + 1) [vi x.kids] := hA.one (k := 1) rfl
   have hA2 : At I b (off + (0 : Int).toNat * 3 + 2) [.bool x.grp] := hA.one (k := 2) rfl
   have hid : I64 x.id := hi
   refine Ctr.intro Tryz.func37 rfl rfl rfl fun E F => ?_
   by_cases h1 : x.kids < 0
   ·rw [takeR_none (by rw [Tk_cons, if_pos (.inl h1)])]
    refine jS (WL.alloc rfl (fun _ => ?_))
    refine jW ?_
    refine jf rfl (jM (jB (jS (jc rfl (jm (jo rfl) (jv rfl rfl (jb rfl (jG (jc rfl (jG (jm (jZ rfl rfl) (jG (jm (jn rfl) (jG (jm (Val.loadS rfl (Rd.imm (by assumption))) ?_)))))))))))))))
    refine jG (jy rfl rfl (jk rfl (jb rfl (jH (jH (jH (jH (jH (jH (jH (jk rfl (jM (jF (jS (jm (Val.build0) ?_)))))))))))))))
    refine WL.stA 1 rfl rfl rfl rfl ?_
    refine jf rfl (jM (jR (jU ?_)))
    exact jP [] (jr2 rfl (jcL 1 rfl rfl rfl) (jtI rfl)) ⟨rfl, _, rfl, LsAt.nil _ _, i64z⟩
   by_cases h2 : (r0.length : Int) + 1 < x.kids
   ·rw [takeR_none (by rw [Tk_cons, if_pos (.inr h2)])]
    refine jS (WL.alloc rfl (fun _ => ?_))
    refine jW ?_
    refine jf rfl (jM (jB (jS (jc rfl (jm (jo rfl) (jv rfl rfl (jb rfl (jG (jc rfl (jG (jm (jZ rfl rfl) (jG (jm (jn rfl) (jG (jm (Val.loadS rfl (Rd.imm (by assumption))) ?_)))))))))))))))
    refine jG (jx rfl rfl (jk rfl (jb rfl (jG (jc rfl (jG (jm (jZ rfl rfl) (jG (jm (jn rfl) (jG (jm (Val.loadS rfl (Rd.imm (by assumption))) ?_)))))))))))
    refine jG (jc rfl (jG (jm (jo rfl) (jG (jO rfl rfl (jk rfl (jM (jF (jS (jm (Val.build0) ?_))))))))))
    refine WL.stA 1 rfl rfl rfl rfl ?_
    refine jf rfl (jM (jR (jU ?_)))
    exact jP [] (jr2 rfl (jcL 1 rfl rfl rfl) (jtI rfl)) ⟨rfl, _, rfl, LsAt.nil _ _, i64z⟩
   have htk : Tk (x :: r0) = match Tks x.kids.toNat r0 with
    | none => none
    | some (ks, rest) => some (.mk x.id x.grp ks, rest) := by rw [Tk_cons, if_neg (by omega)]; rfl
   obtain ⟨m, hm⟩ : ∃ m : Nat, x.kids = m := ⟨x.kids.toNat, by omega⟩
   rw [hm] at hA1 h1 h2 htk
   rw [Int.toNat_natCast] at htk
   refine jS (WL.alloc rfl (fun _ => ?_))
   refine jW ?_
   refine jf rfl (jM (jB (jS (jc rfl (jm (jo rfl) (jv rfl rfl (jb rfl (jG (jc rfl (jG (jm (jZ rfl rfl) (jG (jm (jn rfl) (jG (jm (Val.loadS rfl (Rd.imm (by assumption))) ?_)))))))))))))))
   refine jG (jx rfl rfl (jk rfl (jb rfl (jG (jc rfl (jG (jm (jZ rfl rfl) (jG (jm (jn rfl) (jG (jm (Val.loadS rfl (Rd.imm (by assumption))) ?_)))))))))))
   refine jG (jc rfl (jG (jm (jo rfl) (jG (jL rfl rfl (jk rfl (jM (jE (jV (jA (jB (j8 999 [] rfl (jT 0 rfl (Val.moveS rfl) (jT 1 rfl (jZ rfl rfl) (jT 2 rfl (jn rfl) (jT 3 rfl (Val.loadS rfl (Rd.imm hA0)) ?_))))))))))))))))
   refine jT 4 rfl (Val.moveS rfl) (jT 5 rfl (jZ rfl rfl) (jT 6 rfl (jn rfl) (jT 7 rfl (Val.loadS rfl (Rd.imm hA2)) ?_)))
   refine jT 8 rfl (Val.build (cs := [vi x.id, .bool x.grp, .slice none 0 0]) rfl) ?_
   refine j5 9 rfl (WL.alloc rfl (fun _ => ?_))
   refine jW ?_
   refine jC (j7 [] rfl (j5 10 rfl (WL.stA 2 rfl rfl rfl rfl ?_)))
   refine jC (j7 [] rfl (j6 (jK (jf rfl (jM (jB (jS (jf rfl (jM (WC.block ?_))))))))))
   rename_i g2 g4
   refine WC.slNil 77 3 ?_
   refine WC.nApp ?_
   refine WC.loop (fun n ρ' I' L' => ∃ (k : Nat) (ns : List Nd) (rest : List Ent) (a : Option Addr) (c : Nat) (p : HP), n = m - k ∧ k ≤ m ∧ I.le I' ∧ ρ' 0 = .slice (some ⟨b, off, none⟩) (r0.length + 1) cap ∧ ρ' 2 = ptr g2 ∧ ρ' 4 = ptr g4 ∧ ρ' 5 = vi ((r0.length + 1 - rest.length : Nat) : Int) ∧ ρ' 6 = vi k ∧
     L' = [F, box g2 77 [vi 0, .bool false, .slice none 0 0], box g4 77 [vi x.id, .bool x.grp, .slice a ns.length c], p] ∧ OwnL Nd.Rp 77 3 I' ns (.slice a ns.length c) p ∧
     Tks k r0 = some (ns, rest) ∧ ns.length = k)
    m ⟨0, [], r0, _, _, _, rfl, by omega, Mem.le.refl _, rfl, rfl, rfl, by rw [Nat.add_sub_cancel_left]; rfl, rfl, rfl, OwnL.nil _ _ _ _, Tks_zero _, rfl⟩ ?_
   rintro n ρ' I0 L' ⟨k, ns, rest, a, c, p, rfl, hkm, hI, q0, q2, q4, q5, q6, rfl, hp, ht, hnl⟩
   refine ju5 q6 q5 q4 q2 q0 ?_
   have hrl := Tks_le ht
   have hA1' := hA1.mono hI
   by_cases hkn : k < m
   ·have hrd : rest = (x :: r0).drop (r0.length + 1 - rest.length) := by
     have := Tks_drop ht
     rw [show r0.length + 1 - rest.length = (r0.length - rest.length) + 1 by omega, List.drop_succ_cons]
     exact this
    have hvr := (hv0.mono hI).dropG (r0.length + 1 - rest.length) (by rw [List.length_map, hll]; omega)
    rw [← List.map_drop, ← hrd, List.length_map, hll] at hvr
    have hrr : r0.length + 1 - (r0.length + 1 - rest.length) = rest.length := by omega
    rw [hrr] at hvr
    refine jB (jS (ja rfl (jc rfl (jm (jZ rfl rfl) (jm (jn rfl) (jm (Val.loadS rfl (Rd.imm (by assumption))) ?_))))))
    refine jy rfl rfl (jM (jF (jV (jA (jB (WC.block (jS (jc rfl (ja rfl (jm (Val.sliceFromG (m := r0.length + 1 - rest.length) rfl rfl rfl (by omega) (by omega)) ?_))))))))))
    rw [hrr]
    skip
    refine WL.callR [] rfl rfl rfl (ih rest (by omega) _ _ hvr (by omega)) rfl ?_
    rintro _ I2 hI2 ⟨kv, rfl, hkv, hid1⟩
    have hkv0 := hkv
    obtain ⟨ka, kc, rfl⟩ := hkv.sl
    cases hr : Tk rest with
    | none =>
     have hnone : Tk (x :: r0) = none := by
      rw [htk, show m = k + (m - k - 1 + 1) by omega, Tks_add, ht]
      simp only [Tks_succ, hr]
     rw [takeR_none hnone]
     rw [takeR_none hr]
     have hJ := hI.trans hI2
     refine je rfl (jm (Val.extractA rfl rfl) (jm (jq rfl rfl) (WL.alloc rfl (fun _ => ?_))))
     refine jW ?_
     refine WL.stA 4 rfl rfl rfl rfl ?_
     refine jf rfl (jM (jB (jS (ja rfl (jw rfl rfl (jM (jF (jS (jm (Val.build0) ?_)))))))))
     refine WL.stA 1 rfl rfl rfl rfl ?_
     refine jf rfl (jM (jR (jU (WX.inRet (jU (jU (WX.inRet (jU ?_))))))))
     exact jP [] (jr2 rfl (jcL 1 rfl rfl rfl) (jtI rfl)) ⟨rfl, _, rfl, LsAt.nil _ _, i64z⟩
    | some q =>
     obtain ⟨n1, r1⟩ := q
     have hr1 := Tk_le hr
     rw [takeR_some hr] at hkv0 hid1 ⊢
     have hsz : (rest.length : Int) - r1.length = ((rest.length - r1.length : Nat) : Int) := by omega
     simp only [hsz] at hkv0 hid1 ⊢
     have ht1 : Tks (k + 1) r0 = some (ns ++ [n1], r1) := by
      rw [Tks_add, ht]
      simp only [Tks_succ, hr, Tks_zero]
     refine je rfl (jm (Val.extractA rfl rfl) (jm (jq rfl rfl) (WL.alloc rfl (fun _ => ?_))))
     refine jW ?_
     refine WL.stA 4 rfl rfl rfl rfl ?_
     refine jf rfl (jM (jB (jS (ja rfl (jv rfl rfl (jM (jE (jV (jK (jm (jn rfl) (jm (jp 2 rfl rfl rfl) (jm (jt 4 rfl rfl rfl) (WL.buildSlice (by with_unfolding_all exact rfl) rfl (by with_unfolding_all exact rfl) rfl (fun _ => ?_))))))))))))))
     refine jW ?_
     refine WL.appOne (y := n1) (cs := [vi n1.id, .bool n1.grp, .slice ka n1.kids.length kc]) 3 5 rfl rfl (hp.mono hI2) rfl rfl (Nd.rep_iff.2 ⟨hid1, _, rfl, hkv0⟩) rfl rfl (by rfl) (by decide) (by omega) (by unfold maxLen; omega) rfl fun aa cc p' hp' => ?_
     refine WL.nSet ?_
     have hnl1 : (ns ++ [n1]).length = ns.length + 1 := by rw [List.length_append]; rfl
     refine jm (jn rfl) (WL.stS 2 rfl rfl rfl rfl ?_)
     refine jM (jD (ja rfl (ja rfl (jX rfl rfl (jf rfl (jC (WX.inNormal (jA (jD (ja rfl (jX rfl rfl (jf rfl (jC (WX.conv (fun w h => h.sub [0, 0, 0, 0] rfl) ?_))))))))))))))
     refine WX.thenK (WK.round (m - (k + 1)) (by omega) ⟨k + 1, ns ++ [n1], r1, aa, cc, p', rfl, by omega, hI.trans hI2, rfl, rfl, rfl, ?_, rfl, by rw [hnl1], by rw [hnl1]; exact hp', ht1, by rw [hnl1, hnl]⟩)
     show vi _ = vi _
     congr 1
     omega
   ·have : k = m := by omega
    subst this
    have hsome : Tk (x :: r0) = some (.mk x.id x.grp ns, rest) := by rw [htk, ht]
    rw [takeR_some hsome]
    have hsz : ((x :: r0).length : Int) - rest.length = ((r0.length + 1 - rest.length : Nat) : Int) := by rw [hll]; omega
    rw [hsz]
    refine jB (jS (ja rfl (jc rfl (jm (jZ rfl rfl) (jm (jn rfl) (jm (Val.loadS rfl (Rd.imm (by assumption))) ?_))))))
    refine jx rfl rfl (jM (jE (WC.exit (WX.thenExit (WX.thenExit (WX.inHit (jK (jm (jt 2 rfl rfl rfl) (ja rfl (WL.stA 1 rfl rfl rfl rfl ?_))))))))))
    refine jf rfl (jM (jR (WX.freezeL 3 rfl hp fun I3 hI3 hw => ?_)))
    have hJ := hI.trans hI3
    exact jP [] (jr2 rfl (jcL 1 rfl rfl rfl) (jtI rfl)) ⟨rfl, _, rfl, hw, hid⟩
attribute [local irreducible] WC WL WX WK WA WAK Val Ctr RunRes ResIs Rd At sl box pt Exit.then Exit.inBlock bodyPost Code.wp wpList
theorem small_ctr (l : List Cm) (m : Int) (v : Value) (I : Mem) (hv : LsAt Cm.rep I l v) : Ctr Tryz.prog 22 [v, vi m] I [] (Still I (EqP (smallL l m))) := by
 have hv0 := hv
 have hle := hv.le
 unfold maxLen at hle
 obtain ⟨a1, c1, rfl⟩ := hv.sl
 refine Ctr.intro Tryz.func22 rfl rfl rfl fun E F => ?_
 refine jS (jg rfl (jM (jB (jS (jc rfl (jm (jo rfl) (ja rfl (jM (WC.block ?_)))))))))
 refine WC.loop (fun n ρ' I' L' => ∃ k : Nat, n = l.length - k ∧ k ≤ l.length ∧ I' = I ∧ ρ' 0 = .slice a1 l.length c1 ∧ ρ' 1 = vi m ∧ ρ' 9 = .slice a1 l.length c1 ∧ ρ' 10 = vi l.length ∧ ρ' 11 = vi k ∧ L' = [F] ∧ ∀ c ∈ l.take k, c.small)
  l.length ⟨0, rfl, by omega, rfl, rfl, rfl, rfl, rfl, rfl, rfl, by simp⟩ ?_
 rintro n ρ' I0 L' ⟨k, rfl, hk, rfl, r0, r1, r9, r10, r11, rfl, hall⟩
 refine ju5 r11 r10 r9 r1 r0 ?_
 by_cases hkn : k < l.length
 ·obtain ⟨b, off, cap, cs, he, ⟨e, t, u, d, q, rfl, hc⟩, hA⟩ := hv0.get k hkn
  cases he
  have hmem := List.getElem_mem hkn
  have htk : l.take (k + 1) = l.take k ++ [l[k]] := by rw [List.take_succ_eq_append_getElem hkn]
  have hca := hc.atr
  have hce := hc.ents
  have hcl := hce.le
  unfold maxLen at hcl
  obtain ⟨x0, y0, x1, y1, x2, y2, x3, y3, x4, y4, rfl, rfl, rfl, rfl, rfl⟩ := hc.sl
  generalize l[k] = c at *
  by_cases h40 : 40 < c.ents.length
  ·skip
   refine jS (jy rfl rfl (jM (jB (jF (jV (jA (jB (WC.block (jS (jm (jZ rfl rfl) (jm (Val.loadI rfl (by assumption) rfl) ?_)))))))))))
   refine WL.alloc rfl (fun _ => ?_)
   refine jW ?_
   refine WL.stA 1 rfl rfl rfl rfl ?_
   refine jM (jB (jS (jm (jn rfl) (jm (jp 1 rfl rfl rfl) (jm (jo rfl) (jO rfl rfl (jb rfl (jH (jH (jH (jH (jk rfl (jM (jF (jS (jg rfl (jM (jR (jU (WX.inRet (jU (jU (WX.inRet (jU ?_))))))))))))))))))))))))
   exact jP [] (jr1 rfl (jtB rfl)) ⟨rfl, rfl, EqP.f fun e => by have := (e.1 c hmem).1; omega⟩
  refine jS (jy rfl rfl (jM (jB (jF (jV (jA (jB (WC.block (jS (jm (jZ rfl rfl) (jm (Val.loadI rfl (by assumption) rfl) ?_)))))))))))
  refine WL.alloc rfl (fun _ => ?_)
  refine jW ?_
  refine WL.stA 1 rfl rfl rfl rfl ?_
  refine jM (jB (jS (jm (jn rfl) (jm (jp 1 rfl rfl rfl) (jm (jo rfl) (jL rfl rfl (jb rfl (jG (jm (jn rfl) (jG (jm (jt 1 rfl rfl rfl) (jG ?_))))))))))))
  refine WL.callE rfl rfl (smallAttr_ctr c.atr _ _ _ _ _ hca) rfl (fun hs => ?_) (fun hs => ?_)
  case refine_2 =>
   refine jG (jl rfl (jk rfl (jM (jF (jS (jg rfl (jM (jR (jU (WX.inRet (jU (jU (WX.inRet (jU ?_))))))))))))))
   exact jP [] (jr1 rfl (jtB rfl)) ⟨rfl, rfl, EqP.f fun e => hs (e.1 c hmem).2.1⟩
  refine jG (jl rfl (jk rfl (jM (jE (jV (jK (jm (jn rfl) (jm (jp 1 rfl rfl rfl) (jm (jo rfl) (ja rfl (jM (WC.block (WC.conv (fun w h => h.sub [0] rfl) ?_)))))))))))))
  refine WC.loop (fun n ρ' I' L' => ∃ j : Nat, n = c.ents.length - j ∧ j ≤ c.ents.length ∧ I' = I0 ∧ ρ' 0 = .slice (some ⟨b, off, none⟩) l.length c1 ∧ ρ' 1 = vi m ∧ ρ' 9 = .slice (some ⟨b, off, none⟩) l.length c1 ∧ ρ' 10 = vi l.length ∧ ρ' 11 = vi k ∧ ρ' 26 = .slice x0 c.ents.length y0 ∧ ρ' 27 = vi c.ents.length ∧ ρ' 28 = vi j ∧ L' = [F] ∧ ∀ x ∈ c.ents.take j, x.atr.small)
   c.ents.length ⟨0, rfl, by omega, rfl, rfl, rfl, rfl, rfl, rfl, rfl, rfl, rfl, rfl, by simp⟩ ?_
  rintro n ρ' I1 L' ⟨j, rfl, hj, rfl, r0, r1, r9, r10, r11, r26, r27, r28, rfl, hallj⟩
  refine ju8 r28 r27 r26 r11 r10 r9 r1 r0 ?_
  by_cases hjn : j < c.ents.length
  ·obtain ⟨b5, off5, cap5, cs5, he5, ⟨t5, u5, d5, q5, rfl, hx⟩, hA5⟩ := hce.get j hjn
   cases he5
   have hmx := List.getElem_mem hjn
   have htj : c.ents.take (j + 1) = c.ents.take j ++ [c.ents[j]] := by rw [List.take_succ_eq_append_getElem hjn]
   have hxa := hx.atr
   obtain ⟨p1, o1, p2, o2, p3, o3, p4, o4, rfl, rfl, rfl, rfl⟩ := hx.sl
   generalize c.ents[j] = x at *
   refine jS (jy rfl rfl (jM (jB (jF (jV (jA (jB (WC.block (jS (jm (jZ rfl rfl) (jm (Val.loadI rfl (by assumption) rfl) ?_)))))))))))
   refine WL.alloc rfl (fun _ => ?_)
   refine jW ?_
   refine WL.stA 1 rfl rfl rfl rfl ?_
   refine jN (jm (jn rfl) (jm (jt 1 rfl rfl rfl) ?_))
   refine WL.callE rfl rfl (smallAttr_ctr x.atr _ _ _ _ _ hxa) rfl (fun hs2 => ?_) (fun hs2 => ?_)
   case refine_2 =>
    refine jl rfl (jM (jF (jS (jg rfl (jM (jR (WX.inRet (jU (jU (WX.inRet (WX.inRet (jU (jU (WX.inRet (jU ?_)))))))))))))))
    exact jP [] (jr1 rfl (jtB rfl)) ⟨rfl, rfl, EqP.f fun e => hs2 ((e.1 c hmem).2.2 x hmx)⟩
   refine jl rfl (jM (jE (jV (WX.inNormal (jA (jD (jX rfl rfl (ja rfl (jC (WX.conv (fun w h => h.sub [0] rfl) ?_))))))))))
   refine WX.thenK (WK.round (c.ents.length - (j + 1)) (by omega) ⟨j + 1, rfl, by omega, rfl, rfl, rfl, rfl, rfl, rfl, rfl, rfl, rfl, rfl, ?_⟩)
   rw [htj]
   intro y hy
   rcases List.mem_append.1 hy with hy | hy
   ·exact hallj y hy
   ·rw [List.mem_singleton.1 hy]; exact hs2
  ·have hje : j = c.ents.length := by omega
   subst hje
   rw [List.take_length] at hallj
   refine jS (jx rfl rfl (jM (jB (jE (WC.exit (WX.thenExit (WX.thenExit (WX.inHit (WX.inNormal (jA (jD (jX rfl rfl (ja rfl (jC ?_))))))))))))))
   refine WX.thenK (WK.round (l.length - (k + 1)) (by omega) ⟨k + 1, rfl, by omega, rfl, rfl, rfl, rfl, rfl, rfl, rfl, ?_⟩)
   rw [htk]
   intro y hy
   rcases List.mem_append.1 hy with hy | hy
   ·exact hall y hy
   ·rw [List.mem_singleton.1 hy]; exact ⟨by omega, hs, hallj⟩
 ·have hkl : k = l.length := by omega
  subst hkl
  rw [List.take_length] at hall
  by_cases hm : (l.length : Int) ≤ m
  ·skip
   refine jS (jx rfl rfl (jM (jB (jE (WC.exit (WX.thenExit (WX.thenExit (WX.inHit (jK (jc rfl (jm (jo rfl) (ja rfl (jm (Val.leq rfl rfl (decide_eq_true (by omega))) ?_)))))))))))))
   refine jg rfl (jM (jR ?_))
   exact jP [] (jr1 rfl (jtB rfl)) ⟨rfl, rfl, EqP.t ⟨hall, hm⟩⟩
  ·skip
   refine jS (jx rfl rfl (jM (jB (jE (WC.exit (WX.thenExit (WX.thenExit (WX.inHit (jK (jc rfl (jm (jo rfl) (ja rfl (jm (Val.leq rfl rfl (decide_eq_false (by omega))) ?_)))))))))))))
   refine jg rfl (jM (jR ?_))
   exact jP [] (jr1 rfl (jtB rfl)) ⟨rfl, rfl, EqP.f fun e => hm e.2⟩
theorem dGet (at_ : Int → Option Atr) (f : Int → Option Value) (b tb mb cnt : Nat) (s i : Int) (I : Mem) (hat : AtRep I at_ f) (hlim : ∀ i a, at_ i = some a → a.lim) :
  Ctr Tryz.prog 73 [ptr b, vi i] I [docBox b tb mb s, mp mb f cnt] (KeepR [docBox b tb mb s, mp mb f cnt] fun r I' => ∃ acs, r = .tuple #[.agg acs.toArray, .bool (at_ i).isSome] ∧ Atr.rep I' ((at_ i).getD Atr.z) acs) := by
 obtain ⟨ta, ua, da, qa, hv, haa⟩ := hat.get i
 have hsm := hat.some i
 have hla : ((at_ i).getD Atr.z).lim := by
  cases h : at_ i with
  | none => exact ⟨by decide, by decide, by decide, by decide⟩
  | some a => exact hlim _ _ h
 generalize (at_ i).getD Atr.z = a at hv haa hla ⊢
 have haa0 := haa
 obtain ⟨a1, c1, a2, c2, a3, c3, a4, c4, rfl, rfl, rfl, rfl⟩ := haa.sl
 refine Ctr.intro Tryz.func73 rfl rfl rfl fun E F => ?_
 refine jS (WL.alloc rfl (fun _ => ?_))
 refine jW ?_
 refine jg rfl (jN (jd rfl (jm (jr rfl) (jm (jn rfl) (jm (jp 1 rfl rfl rfl) (ja rfl (jm (Val.lookup2v 2 hv hsm rfl rfl rfl) ?_)))))))
 refine je rfl (jm (Val.extractA rfl rfl) (jm (Val.extractB rfl rfl) (WL.alloc rfl (fun _ => ?_))))
 refine jW ?_
 refine WL.stA 4 rfl rfl rfl rfl ?_
 refine jg rfl (jN (jm (jt 4 rfl rfl rfl) (WL.callR [] rfl rfl rfl (copied_ctr a _ _ _ _ _ haa0 hla) rfl ?_)))
 rintro _ I1 hI1 ⟨t1, u1, d1, q1, rfl, h1⟩
 have h10 := h1
 obtain ⟨b1, r1, b2, r2, b3, r3, b4, r4, rfl, rfl, rfl, rfl⟩ := h1.sl
 refine jb rfl (WL.stA 3 rfl rfl rfl rfl ?_)
 refine jg rfl (jM (jR ?_))
 exact jP [0, 0] (jr2 rfl (jcL 3 rfl rfl rfl) (jtB rfl)) ⟨rfl, _, rfl, _, _, _, _, rfl, h10⟩
theorem dNodes (b tb mb : Nat) (s : Int) (I : Mem) : Ctr Tryz.prog 74 [ptr b] I [docBox b tb mb s] (Keep I [docBox b tb mb s] fun r => r = vi s) := by
 refine Ctr.intro Tryz.func74 rfl rfl rfl fun E F => ?_
 refine jS (jf rfl (jN (jd rfl (jm (jr rfl) (jm (jn rfl) (jm (jp 1 rfl rfl rfl) (jf rfl (jM (jR ?_)))))))))
 exact jP [0] (jr1 rfl (jtI rfl)) ⟨rfl, rfl, rfl⟩
end Go.Proofs.YtggcpoleklcmkaaGreatDoor

namespace Go.Tr
open Go.Sl Go.Ls
namespace Nd
mutual
def gs : Nd → List (Int × Bool)
 | .mk i g ks => (i, g) :: gss ks
def gss : List Nd → List (Int × Bool)
 | [] => []
 | k :: ks => gs k ++ gss ks
end
theorem gss_app : ∀ (a b : List Nd), gss (a ++ b) = gss a ++ gss b
 | [], b => by rw [gss]; rfl
 | x :: a, b => by rw [List.cons_append, gss, gss, gss_app a b, List.append_assoc]
theorem gs_eq (n : Nd) : n.gs = (n.id, n.grp) :: gss n.kids := by cases n; rw [gs]; rfl
theorem order_gs (n : Nd) : n.gs.map Prod.fst = n.order := by
 refine Nd.rec (motive_1 := fun n => n.gs.map Prod.fst = n.order) (motive_2 := fun l => (gss l).map Prod.fst = orders l) ?_ ?_ ?_ n
 ·intro i g ks h
  rw [gs, order, List.map_cons, h]
 ·rw [gss, orders]; rfl
 ·intro k ks h1 h2
  rw [gss, orders, List.map_append, h1, h2]
theorem gcount_with {q : Int} (x : Int × Bool) (ks : List Nd) (n : Nd) : ∀ p, Nd.find q n = some p → n.order.Nodup → (Nd.with_ q ks n).gs.count x + (gss p.kids).count x = n.gs.count x + (gss ks).count x := by
 refine Nd.rec (motive_1 := fun n => ∀ p, Nd.find q n = some p → n.order.Nodup → (Nd.with_ q ks n).gs.count x + (gss p.kids).count x = n.gs.count x + (gss ks).count x) (motive_2 := fun l => ∀ p, finds q l = some p → (orders l).Nodup → (gss (withs q ks l)).count x + (gss p.kids).count x = (gss l).count x + (gss ks).count x) ?_ ?_ ?_ n
 ·intro j g ks0 ih p hp ho
  rw [Nd.find] at hp
  rw [Nd.with_, gs, gs, List.count_cons, List.count_cons]
  rw [order, List.nodup_cons] at ho
  by_cases hj : j = q
  ·rw [if_pos hj] at hp; cases hp
   rw [if_pos hj]
   show _ + (gss ks0).count x = _
   omega
  ·rw [if_neg hj] at hp
   rw [if_neg hj]
   have := ih p hp ho.2
   omega
 ·intro p hp; simp [finds] at hp
 ·intro k l h1 h2 p hp ho
  rw [finds] at hp
  rw [orders, List.nodup_append] at ho
  rw [withs, gss, gss, List.count_append, List.count_append]
  cases hk : Nd.find q k with
  | some y =>
   rw [hk] at hp; cases hp
   have hq : q ∈ k.order := (find_some q k).1 (by rw [hk]; rfl)
   have h3 := h1 _ hk ho.1
   rw [withs_none q _ l fun hl => ho.2.2 q hq q hl rfl]
   omega
  | none =>
   rw [hk] at hp
   have hn : q ∉ k.order := fun hm => by
    have := (find_some q k).2 hm
    rw [hk] at this; cases this
   have h3 := h2 _ hp ho.2.1
   rw [with_none q _ k hn]
   omega
theorem gcount_td (x : Int × Bool) (l : List Nd) (k : Nat) : (gss (l.take k)).count x + (gss (l.drop k)).count x = (gss l).count x := by
 rw [← List.count_append, ← gss_app, List.take_append_drop]
theorem gcount_rem (x : Int × Bool) {l : List Nd} {k : Nat} (hk : k < l.length) : (gss (l.take k ++ l.drop (k + 1))).count x + (l[k]).gs.count x = (gss l).count x := by
 have h1 := gcount_td x l k
 rw [drop_eq hk, gss, List.count_append] at h1
 rw [gss_app, List.count_append]; omega
theorem gcount_add {top n : Nd} {p ix : Int} (ho : top.order.Nodup) (h : (Nd.add top p ix n).2 = 0) (x : Int × Bool) : (Nd.add top p ix n).1.gs.count x = top.gs.count x + n.gs.count x := by
 rw [Nd.add] at h ⊢
 split at h
 ·exact absurd h (by show ¬ (31 : Int) = 0; decide)
 ·rename_i m hm
  split at h
  ·exact absurd h (by show ¬ (33 : Int) = 0; decide)
  ·rename_i hg
   rw [if_neg hg]
   split at h
   ·exact absurd h (by show ¬ (30 : Int) = 0; decide)
   ·rename_i hx
    rw [if_neg hx]
    split at h
    ·rename_i hf
     exact absurd h hf
    ·rename_i hf
     rw [if_neg hf]
     have h1 := gcount_with x (m.kids.take ix.toNat ++ n :: m.kids.drop ix.toNat) top m hm ho
     have h2 := gcount_td x m.kids ix.toNat
     rw [gss_app, gss, List.count_append, List.count_append] at h1
     simp only
     omega
end Nd
section
variable {A : Ar} {top : Nd}
open Nd
theorem Abs.gcount_rem (hA : Abs A top) {i : Int} (h : (Nd.remove top i).2.2.2.2 = 0) (x : Int × Bool) : (Nd.remove top i).1.gs.count x + (Nd.remove top i).2.1.gs.count x = top.gs.count x := by
 rcases hA.rem i with ⟨h0, _⟩ | ⟨p, k, hk, _, _, _, _, hf, e, _⟩
 ·exact absurd h h0
 ·rw [e]
  have h1 := gcount_with x (p.kids.take k ++ p.kids.drop (k + 1)) top p hf hA.od
  have h2 := Nd.gcount_rem x hk
  simp only
  omega
theorem Abs.gcount_move (hA : Abs A top) {i p ix : Int} (h : (Nd.move top i p ix).2 = 0) (x : Int × Bool) : (Nd.move top i p ix).1.gs.count x = top.gs.count x := by
 rw [Nd.move] at h ⊢
 split at h
 ·rename_i h0; exact absurd h h0
 ·rename_i h0
  rw [if_neg h0]
  have h0' := Decidable.of_not_not h0
  have hc := hA.count_rem h0'
  have hcg := hA.gcount_rem h0'
  obtain ⟨o1, o2, _⟩ := hA.rem_nodup h0'
  split at h
  ·exact absurd h (by show ¬ (31 : Int) = 0; decide)
  ·rename_i m hm
   split at h
   ·exact absurd h (by show ¬ (33 : Int) = 0; decide)
   ·rename_i hg
    rw [if_neg hg]
    split at h
    ·exact absurd h (by show ¬ (34 : Int) = 0; decide)
    ·rename_i hcy
     rw [if_neg hcy]
     have hp1 := count_find (i := p) (n := top).1 (by rw [hm]; rfl)
     have hp2 : ¬ 0 < (Nd.remove top i).2.1.order.count p := fun hh => hcy (count_find.2 hh)
     have hp3 := hc p
     obtain ⟨m', hm'⟩ := Option.isSome_iff_exists.1 (count_find.2 (show 0 < (Nd.remove top i).1.order.count p by omega))
     rw [hm'] at h ⊢
     simp only [Option.getD_some] at h ⊢
     split at h
     ·exact absurd h (by show ¬ (30 : Int) = 0; decide)
     ·rename_i hix
      rw [if_neg hix]
      split at h
      ·exact absurd h (by show ¬ (35 : Int) = 0; decide)
      ·rename_i hd
       rw [if_neg hd]
       have h1 := gcount_with x (m'.kids.take ix.toNat ++ (Nd.remove top i).2.1 :: m'.kids.drop ix.toNat) (Nd.remove top i).1 m' hm' o1
       have h2 := gcount_td x m'.kids ix.toNat
       rw [gss_app, gss, List.count_append, List.count_append] at h1
       have := hcg x
       simp only
       omega
theorem Nd.gcount_wrap (ho : top.order.Nodup) {i p ix c : Int} (h : (Nd.wrap top i p ix c).2 = 0) (x : Int × Bool) : (Nd.wrap top i p ix c).1.gs.count x = top.gs.count x + (if (i, true) = x then 1 else 0) := by
 rw [Nd.wrap] at h ⊢
 split at h
 ·exact absurd h (by show ¬ (31 : Int) = 0; decide)
 ·rename_i m hm
  split at h
  ·exact absurd h (by show ¬ (33 : Int) = 0; decide)
  ·rename_i hg
   rw [if_neg hg]
   split at h
   ·exact absurd h (by show ¬ (30 : Int) = 0; decide)
   ·rename_i hx
    rw [if_neg hx]
    split at h
    ·rename_i hf
     exact absurd h hf
    ·rename_i hf
     rw [if_neg hf]
     split at h
     ·exact absurd h (by show ¬ (35 : Int) = 0; decide)
     ·rename_i hd
      rw [if_neg hd]
      have h1 := gcount_with x (m.kids.take ix.toNat ++ (mk i true ((m.kids.drop ix.toNat).take c.toNat) :: m.kids.drop (ix.toNat + c.toNat))) top m hm ho
      have h2 := gcount_td x m.kids ix.toNat
      have h3 := gcount_td x (m.kids.drop ix.toNat) c.toNat
      rw [List.drop_drop] at h3
      rw [gss_app, gss, gs, List.count_append, List.count_append, List.count_cons] at h1
      simp only [beq_iff_eq] at h1
      simp only
      omega
theorem Abs.gcount_unwrap (hA : Abs A top) {i : Int} (h : (Nd.unwrap top i).2.2.2.2 = 0) (x : Int × Bool) : (Nd.unwrap top i).1.gs.count x + (if (i, true) = x then 1 else 0) = top.gs.count x := by
 rw [Nd.unwrap] at h ⊢
 split at h
 ·rename_i h0; exact absurd h h0
 ·rename_i h0
  rw [if_neg h0]
  split at h
  ·exact absurd h (by show ¬ (33 : Int) = 0; decide)
  ·rename_i hg
   rw [if_neg hg]
   rcases hA.rem i with ⟨h1, _⟩ | ⟨p, k, hk, _, hid, _, _, hf, e, _⟩
   ·exact absurd (Decidable.of_not_not h0) h1
   ·have hgt : (p.kids[k]).grp = true := by
     rw [e] at hg
     cases hh : (p.kids[k]).grp with
     | true => rfl
     | false => exact absurd hh hg
    rw [e]
    simp only [hf, Option.getD_some, Int.toNat_natCast]
    have h1 := gcount_with x (p.kids.take k ++ ((p.kids[k]).kids ++ p.kids.drop (k + 1))) top p hf hA.od
    have h2 := Nd.gcount_rem x hk
    have h3 : (p.kids[k]).gs.count x = (gss (p.kids[k]).kids).count x + (if (i, true) = x then 1 else 0) := by
     rw [gs_eq, List.count_cons, hid, hgt]
     simp only [beq_iff_eq]
    rw [gss_app, gss_app, List.count_append, List.count_append] at h1
    rw [gss_app, List.count_append] at h2
    omega
end
end Go.Tr

namespace Go.Dc
open Go.Sl Go.Ls Go.Tr
theorem checked_ok {l : List Sg} (h : (checked l).2 = 0) : pathCheck l = 0 ∧ checked l = (l, 0) := by
 rw [checked] at h ⊢
 split at h
 ·rename_i h1; exact absurd h h1
 ·rename_i h1
  exact ⟨Decidable.of_not_not h1, if_neg h1⟩
theorem insert_ok {l : List Sg} {i : Int} {s : Sg} (h : (pathInsert l i s).2 = 0) : 0 ≤ i ∧ i ≤ l.length ∧ pathInsert l i s = (l.take i.toNat ++ s :: l.drop i.toNat, 0) ∧ pathCheck (l.take i.toNat ++ s :: l.drop i.toNat) = 0 := by
 rw [pathInsert] at h ⊢
 split at h
 ·rename_i h1; exact absurd h h1
 ·rename_i h1
  rw [if_neg h1]
  split at h
  ·exact absurd h (by show ¬ (30 : Int) = 0; decide)
  ·rename_i h2
   rw [if_neg h2]
   obtain ⟨h3, h4⟩ := checked_ok h
   exact ⟨by omega, by omega, h4, h3⟩
theorem delete_ok {l : List Sg} {i : Int} (h : (pathDelete l i).2 = 0) : atSeg l i = 0 ∧ pathDelete l i = (l.take i.toNat ++ l.drop (i.toNat + 1), 0) ∧ pathCheck (l.take i.toNat ++ l.drop (i.toNat + 1)) = 0 := by
 rw [pathDelete] at h ⊢
 split at h
 ·rename_i h1; exact absurd h h1
 ·rename_i h1
  rw [if_neg h1]
  obtain ⟨h3, h4⟩ := checked_ok h
  exact ⟨Decidable.of_not_not h1, h4, h3⟩
theorem put_ok {l : List Sg} {i k : Int} {p : Pt} (h : (pathPut l i k p).2 = 0) : atSeg l i = 0 ∧ 0 ≤ k ∧ k < need (sgAt l i).kind ∧ pathPut l i k p = (l.set i.toNat ((sgAt l i).setPoint k.toNat p), 0) ∧ pathCheck (l.set i.toNat ((sgAt l i).setPoint k.toNat p)) = 0 := by
 rw [pathPut] at h ⊢
 split at h
 ·rename_i h1; exact absurd h h1
 ·rename_i h1
  rw [if_neg h1]
  split at h
  ·exact absurd h (by show ¬ (30 : Int) = 0; decide)
  ·rename_i h2
   rw [if_neg h2]
   obtain ⟨h3, h4⟩ := checked_ok h
   exact ⟨Decidable.of_not_not h1, by omega, by omega, h4, h3⟩
theorem split_ok {l : List Sg} {i : Int} (h : (pathSplit l i).2 = 0) : atSeg l i = 0 ∧ (sgAt l i).kind ≠ 1 ∧ (sgAt l i).kind ≠ 5 ∧ l.length ≠ 4096 ∧
  (pathSplit l i).1 = l.take i.toNat ++ ((sgAt l i).parts ((sgAt l (i - 1)).point (need (sgAt l (i - 1)).kind - 1))).1 :: ((sgAt l i).parts ((sgAt l (i - 1)).point (need (sgAt l (i - 1)).kind - 1))).2 :: l.drop (i.toNat + 1) := by
 rw [pathSplit] at h ⊢
 split at h
 ·rename_i h1; exact absurd h h1
 ·rename_i h1
  rw [if_neg h1]
  split at h
  ·exact absurd h (by show ¬ (33 : Int) = 0; decide)
  ·rename_i h2
   rw [if_neg h2]
   split at h
   ·exact absurd h (by show ¬ (36 : Int) = 0; decide)
   ·rename_i h3
    rw [if_neg h3]
    exact ⟨Decidable.of_not_not h1, fun e => h2 (.inl e), fun e => h2 (.inr e), h3, rfl⟩
def openAft (o : Bool) : List Sg → Bool
 | [] => o
 | s :: r => openAft (decide (s.kind ≠ 5)) r
theorem pathGo_app : ∀ (a b : List Sg) (o : Bool), pathGo o (a ++ b) = if pathGo o a ≠ 0 then pathGo o a else pathGo (openAft o a) b
 | [], b, o => by simp [pathGo, openAft]
 | s :: a, b, o => by
  rw [List.cons_append, pathGo, pathGo, openAft]
  by_cases h : s.check o ≠ 0
  ·rw [if_pos h, if_pos h, if_pos h]
  ·rw [if_neg h, if_neg h, pathGo_app a b]
theorem pathGo_app0 {a b : List Sg} {o : Bool} : pathGo o (a ++ b) = 0 ↔ pathGo o a = 0 ∧ pathGo (openAft o a) b = 0 := by
 rw [pathGo_app]
 constructor
 ·intro h
  split at h
  ·rename_i h1; exact absurd h h1
  ·rename_i h1; exact ⟨Decidable.of_not_not h1, h⟩
 ·rintro ⟨h1, h2⟩
  rw [if_neg (fun e => e h1), h2]
theorem pathGo_cons0 {s : Sg} {r : List Sg} {o : Bool} : pathGo o (s :: r) = 0 ↔ s.check o = 0 ∧ pathGo (decide (s.kind ≠ 5)) r = 0 := by
 rw [pathGo]
 constructor
 ·intro h
  split at h
  ·rename_i h1; exact absurd h h1
  ·rename_i h1; exact ⟨Decidable.of_not_not h1, h⟩
 ·rintro ⟨h1, h2⟩
  rw [if_neg (fun e => e h1), h2]
theorem pathCheck_iff {l : List Sg} : pathCheck l = 0 ↔ l.length ≤ 4096 ∧ pathGo false l = 0 := by
 rw [pathCheck]
 constructor
 ·intro h
  split at h
  ·exact absurd h (by decide)
  ·exact ⟨by omega, h⟩
 ·rintro ⟨h1, h2⟩
  rw [if_neg (by omega), h2]
theorem seg_check {s : Sg} (hk : s.kind = 2 ∨ s.kind = 3 ∨ s.kind = 4) : s.check true = 0 ↔ (s.kind = 2 → s.p1 = Pt.z) ∧ (s.kind ≠ 4 → s.p2 = Pt.z) ∧ s.p0.inn ∧ (s.kind ≠ 2 → s.p1.inn) ∧ (s.kind = 4 → s.p2.inn) := by
 obtain ⟨k, p0, p1, p2⟩ := s
 simp only at hk
 rw [Sg.check]
 have e1 : ∀ (P : Prop) [Decidable P] (a b : Int), a ≠ 0 → ((if P then a else b) = 0 ↔ ¬ P ∧ b = 0) := fun P _ a b h => by
  constructor
  ·intro e
   split at e
   ·exact absurd e h
   ·rename_i q; exact ⟨q, e⟩
  ·rintro ⟨q, e⟩
   rw [if_neg q, e]
 rw [e1 _ _ _ (by decide), e1 _ _ _ (by decide), e1 _ _ _ (by decide)]
 rcases hk with rfl | rfl | rfl
 all_goals simp [need, not_or]
 all_goals first | done | constructor
 all_goals first | done | (intro h; simp_all) | skip
theorem parts_check {f : Pt} {x : Sg} (hx : x.check true = 0) (hf : f.inn) (hk : x.kind = 2 ∨ x.kind = 3 ∨ x.kind = 4) : (x.parts f).1.check true = 0 ∧ (x.parts f).2.check true = 0 ∧ (x.parts f).1.kind = x.kind ∧ (x.parts f).2.kind = x.kind := by
 have n24 : ¬ (2 : Int) = 4 := by decide
 have n32 : ¬ (3 : Int) = 2 := by decide
 have n34 : ¬ (3 : Int) = 4 := by decide
 have n42 : ¬ (4 : Int) = 2 := by decide
 have n43 : ¬ (4 : Int) = 3 := by decide
 obtain ⟨k, p0, p1, p2⟩ := x
 have h := (seg_check hk).1 hx
 obtain ⟨h1, h2, h3, h4, h5⟩ := h
 simp only at hk h1 h2 h3 h4 h5
 rw [Sg.parts]
 rcases hk with rfl | rfl | rfl
 ·rw [if_pos rfl]
  refine ⟨(seg_check (.inl rfl)).2 ⟨h1, h2, mid_inn hf h3, fun e => absurd rfl e, fun e => absurd e n24⟩, hx, rfl, rfl⟩
 ·have h4 := h4 (by decide)
  rw [if_neg n32, if_pos rfl]
  exact ⟨(seg_check (.inr (.inl rfl))).2 ⟨fun e => absurd e n32, h2, mid_inn hf h3, fun _ => mid_inn (mid_inn hf h3) (mid_inn h3 h4), fun e => absurd e n34⟩,
   (seg_check (.inr (.inl rfl))).2 ⟨fun e => absurd e n32, h2, mid_inn h3 h4, fun _ => h4, fun e => absurd e n34⟩, rfl, rfl⟩
 ·have h4 := h4 (by decide)
  have h5 := h5 rfl
  rw [if_neg n42, if_neg n43]
  exact ⟨(seg_check (.inr (.inr rfl))).2 ⟨fun e => absurd e n42, fun e => absurd rfl e, mid_inn hf h3, fun _ => mid_inn (mid_inn hf h3) (mid_inn h3 h4), fun _ => mid_inn (mid_inn (mid_inn hf h3) (mid_inn h3 h4)) (mid_inn (mid_inn h3 h4) (mid_inn h4 h5))⟩,
   (seg_check (.inr (.inr rfl))).2 ⟨fun e => absurd e n42, fun e => absurd rfl e, mid_inn (mid_inn h3 h4) (mid_inn h4 h5), fun _ => mid_inn h4 h5, fun _ => h5⟩, rfl, rfl⟩
theorem split_right {l : List Sg} {i : Int} (h : (pathSplit l i).2 = 0) : pathCheck (pathSplit l i).1 = 0 := by
 obtain ⟨h1, h2, h3, h4, h5⟩ := split_ok h
 obtain ⟨c0, i0, il, l4⟩ := atSeg_ok h1
 obtain ⟨j, rfl⟩ : ∃ j : Nat, i = j := ⟨i.toNat, by omega⟩
 have hj : j < l.length := by omega
 rw [sgAt_nat hj] at h2 h3 h5
 obtain ⟨j0, f1, f2, f3, _⟩ := split_facts c0 hj h2 h3
 have hjm : ((j : Int) - 1) = ((j - 1 : Nat) : Int) := by omega
 rw [hjm, sgAt_nat (by omega)] at h5
 rw [h5]
 simp only [Int.toNat_natCast]
 obtain ⟨cl, cg⟩ := pathCheck_iff.1 c0
 have hsp : l = l.take j ++ l[j] :: l.drop (j + 1) := by rw [← List.drop_eq_getElem_cons hj, List.take_append_drop]
 rw [hsp] at cg
 obtain ⟨g1, g2⟩ := pathGo_app0.1 cg
 obtain ⟨g3, g4⟩ := pathGo_cons0.1 g2
 have ho := (seg_facts g3).2.2.1 h2
 rw [ho] at g3
 obtain ⟨p1, p2, p3, p4⟩ := parts_check g3 f2 f3
 have hk5 : ∀ {y : Sg}, y.kind = (l[j]).kind → decide (y.kind ≠ 5) = true := fun e => decide_eq_true (by rw [e]; exact h3)
 refine pathCheck_iff.2 ⟨?_, pathGo_app0.2 ⟨g1, pathGo_cons0.2 ⟨by rw [ho]; exact p1, pathGo_cons0.2 ⟨by rw [hk5 p3]; exact p2, ?_⟩⟩⟩⟩
 ·simp only [List.length_append, List.length_cons, List.length_take, List.length_drop]; omega
 ·rw [p4]; exact g4
theorem Atr.check_iff {a : Atr} {g : Bool} : a.check g = 0 ↔ a.mtx.right ∧ a.sty.check = 0 ∧ pathCheck a.path = 0 ∧ (g = true → a.path.length = 0) := by
 constructor
 ·intro h
  obtain ⟨h1, h2, h3⟩ := Atr.check_ok h
  refine ⟨h1, h2, h3, fun e => ?_⟩
  rw [Atr.check, if_neg (fun e => e h1), if_neg (fun e => e h2), if_neg (fun e => e h3)] at h
  split at h
  ·exact absurd h (by decide)
  ·rename_i h4
   rcases Nat.eq_zero_or_pos a.path.length with h5 | h5
   ·exact h5
   ·exact absurd ⟨e, h5⟩ h4
 ·rintro ⟨h1, h2, h3, h4⟩
  rw [Atr.check, if_neg (fun e => e h1), if_neg (fun e => e h2), if_neg (fun e => e h3), if_neg]
  rintro ⟨e, h5⟩
  have := h4 e
  omega
theorem change_right {a : Atr} {c : Cm} {g : Bool} (ha : a.check g = 0) (hg : 8 ≤ c.kind → g = false) (h : (change a c).2.2 = 0) (h6 : 6 ≤ c.kind) : (change a c).1.check g = 0 := by
 obtain ⟨h1, h2, h3, h4⟩ := Atr.check_iff.1 ha
 rw [change] at h ⊢
 by_cases k : c.kind = 6
 ·rw [if_pos k] at h ⊢
  have hm : c.atr.mtx.right := by
   simp only at h
   split at h
   ·assumption
   ·exact absurd h (by decide)
  exact Atr.check_iff.2 ⟨hm, h2, h3, h4⟩
 rw [if_neg k] at h ⊢
 by_cases k : c.kind = 7
 ·rw [if_pos k] at h ⊢
  exact Atr.check_iff.2 ⟨h1, h, h3, h4⟩
 rw [if_neg k] at h ⊢
 have hg := hg (by omega)
 subst hg
 by_cases k : c.kind = 8
 ·rw [if_pos k] at h ⊢
  exact Atr.check_iff.2 ⟨h1, h2, h, fun e => by cases e⟩
 rw [if_neg k] at h ⊢
 by_cases k : c.kind = 9
 ·rw [if_pos k] at h ⊢
  obtain ⟨_, _, e, hp⟩ := insert_ok h
  refine Atr.check_iff.2 ⟨h1, h2, ?_, fun e => by cases e⟩
  show pathCheck (pathInsert a.path c.i c.seg).1 = 0
  rw [e]; exact hp
 rw [if_neg k] at h ⊢
 by_cases k : c.kind = 10
 ·rw [if_pos k] at h ⊢
  obtain ⟨_, e, hp⟩ := delete_ok h
  refine Atr.check_iff.2 ⟨h1, h2, ?_, fun e => by cases e⟩
  show pathCheck (pathDelete a.path c.i).1 = 0
  rw [e]; exact hp
 rw [if_neg k] at h ⊢
 by_cases k : c.kind = 11
 ·rw [if_pos k] at h ⊢
  obtain ⟨_, _, _, e, hp⟩ := put_ok h
  refine Atr.check_iff.2 ⟨h1, h2, ?_, fun e => by cases e⟩
  show pathCheck (pathPut a.path c.i c.k c.point).1 = 0
  rw [e]; exact hp
 rw [if_neg k] at h ⊢
 exact Atr.check_iff.2 ⟨h1, h2, split_right h, fun e => by cases e⟩
end Go.Dc
