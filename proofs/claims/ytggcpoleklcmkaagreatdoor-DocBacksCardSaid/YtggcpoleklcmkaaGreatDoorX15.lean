/-
 Drawings, the plain law: what takes a command back leaves the drawing as it was.
-/
import Derived.Test.YtggcpoleklcmkaaGreatDoorX14
import Derived.Test.YtggcpoleklcmkaaGreatDoorX2
import Derived.Test.YtggcpoleklcmkaaGreatDoorX3
set_option linter.unusedVariables false
set_option linter.unusedSimpArgs false
set_option maxRecDepth 100000
set_option maxHeartbeats 8000000
namespace Go.Dc
open Go.Sl Go.Ls Go.Tr
theorem Tk_ents (at_ : Int → Atr) (n : Nd) : ∀ r, Tk (ents at_ n ++ r) = some (n, r) := by
 refine Nd.rec (motive_1 := fun n => ∀ r, Tk (ents at_ n ++ r) = some (n, r)) (motive_2 := fun l => ∀ r, Tks l.length (entss at_ l ++ r) = some (l, r)) ?_ ?_ ?_ n
 ·intro i g ks h r
  rw [ents, List.cons_append, Tk_cons]
  have h1 := entss_len at_ ks
  have h2 := Nd.len_le_sizes ks
  rw [if_neg (by simp only [List.length_append]; omega)]
  simp only [Int.toNat_natCast, h r]
 ·intro r
  rw [entss]; exact Tks_zero _
 ·intro k ks h1 h2 r
  rw [entss, List.length_cons, Tks_succ, List.append_assoc, h1]
  simp only [h2 r]
theorem Tk_ents0 (at_ : Int → Atr) (n : Nd) : Tk (ents at_ n) = some (n, []) := by
 have := Tk_ents at_ n []
 rwa [List.append_nil] at this
theorem ents_gs (at_ : Int → Atr) (n : Nd) : (ents at_ n).map (fun x => (x.id, x.grp)) = n.gs := Tk_gs (Tk_ents0 at_ n)
theorem dropAll_mem : ∀ {l : List Ent} {f : Int → Option Atr} {i : Int}, i ∈ l.map Ent.id → dropAll f l i = none
 | [], _, _, h => by cases h
 | x :: l, f, i, h => by
  rw [dropAll]
  by_cases hi : i ∈ l.map Ent.id
  ·exact dropAll_mem hi
  ·rw [dropAll_ne hi]
   have : i = x.id := by
    rcases List.mem_cons.1 h with h | h
    ·exact h
    ·exact absurd h hi
   rw [downAt, if_pos this]
theorem Dr.ext_of {d e : Dr} (ht : e.top = d.top) (ha : e.at_ = d.at_) (hd : DInv d) (he : DInv e) : e = d := by
 have h1 := hd.seg
 have h2 := he.seg
 obtain ⟨t, a, s⟩ := d
 obtain ⟨t', a', s'⟩ := e
 simp only at ht ha
 subst ht; subst ha
 simp only at h1 h2
 congr 1
 rw [h1, h2]
 rfl
section
variable {A B : Ar} {d : Dr} {c : Cm}
theorem apply_err (h : (d.apply c).2.2 ≠ 0) : (d.apply c).1 = d ∧ (d.apply c).2.1 = Cm.z := by
 have key : ∀ {q : Dr × Cm × Int}, q.2.2 ≠ 0 → (q.2.2 = 0 ∨ (q.1 = d ∧ q.2.1 = Cm.z)) → q.1 = d ∧ q.2.1 = Cm.z := fun h1 h2 => h2.resolve_left h1
 refine key h ?_
 rw [Dr.apply]
 by_cases k1 : c.kind = 1
 ·rw [if_pos k1, Dr.add]
  repeat' split
  all_goals first | exact .inr ⟨rfl, rfl⟩ | exact .inl rfl
 rw [if_neg k1]
 by_cases k2 : c.kind = 2
 ·rw [if_pos k2, Dr.remove]
  simp only
  split
  all_goals first | exact .inr ⟨rfl, rfl⟩ | exact .inl rfl
 rw [if_neg k2]
 by_cases k3 : c.kind = 3
 ·rw [if_pos k3, Dr.move]
  simp only
  split
  all_goals first | exact .inr ⟨rfl, rfl⟩ | exact .inl rfl
 rw [if_neg k3]
 by_cases k4 : c.kind = 4
 ·rw [if_pos k4, Dr.wrap]
  simp only
  repeat' split
  all_goals first | exact .inr ⟨rfl, rfl⟩ | exact .inl rfl
 rw [if_neg k4]
 by_cases k5 : c.kind = 5
 ·rw [if_pos k5, Dr.unwrap]
  simp only
  split
  all_goals first | exact .inr ⟨rfl, rfl⟩ | exact .inl rfl
 rw [if_neg k5]
 by_cases k6 : 6 ≤ c.kind ∧ c.kind ≤ 12
 ·rw [if_pos k6, Dr.set]
  repeat' split
  all_goals first | exact .inr ⟨rfl, rfl⟩ | exact .inl rfl
 ·rw [if_neg k6]; exact .inr ⟨rfl, rfl⟩
theorem back_core (hA : Abs A d.top) (hF : Fit d) (hdom : ∀ i, (d.at_ i).isSome = true ↔ i ≠ 0 ∧ i ∈ d.top.order) (hB : Abs B (d.apply c).1.top) (h : (d.apply c).2.2 = 0) :
  ((d.apply c).1.apply (d.apply c).2.1).1.top = d.top ∧ ((d.apply c).1.apply (d.apply c).2.1).1.at_ = d.at_ ∧ ((d.apply c).1.apply (d.apply c).2.1).2.2 = 0 := by
 have key : ∀ {q : Dr × Cm × Int}, d.apply c = q → (q.1.apply q.2.1).1.top = d.top ∧ (q.1.apply q.2.1).1.at_ = d.at_ ∧ (q.1.apply q.2.1).2.2 = 0 → ((d.apply c).1.apply (d.apply c).2.1).1.top = d.top ∧ ((d.apply c).1.apply (d.apply c).2.1).1.at_ = d.at_ ∧ ((d.apply c).1.apply (d.apply c).2.1).2.2 = 0 := by
  rintro q rfl h
  exact h
 have h1n : ∀ {P : Prop} [Decidable P] {q : Dr × Cm × Int} {e : Int} , (if P then (d, Cm.z, e) else q).2.2 = 0 → e ≠ 0 → ¬ P ∧ (if P then (d, Cm.z, e) else q) = q := fun {P _ q e} h he => by
  split at h
  ·exact absurd h he
  ·rename_i hp; exact ⟨hp, if_neg hp⟩
 by_cases k1 : c.kind = 1
 ·have ha : d.apply c = d.add c := by rw [Dr.apply, if_pos k1]
  rw [ha] at h hB
  rw [Dr.add] at h
  obtain ⟨hW, e1⟩ := h1n h (by decide)
  rw [e1] at h
  have hf : firstWrong c.ents = 0 := by
   by_cases hf : firstWrong c.ents = 0
   ·exact hf
   ·rw [if_pos hf] at h; exact absurd h hf
  rw [if_neg (fun e => e hf)] at h
  have hm : ¬ mostSegs - d.segs < segsOf c.ents := fun hm => by
   rw [if_pos hm] at h
   simp only at h
   split at h
   ·rename_i h2; exact h2 h
   ·exact absurd h (by decide)
  rw [if_neg hm] at h
  have he : (Nd.add d.top c.parent c.index (nodeOf c.ents)).2 = 0 := by
   by_cases he : (Nd.add d.top c.parent c.index (nodeOf c.ents)).2 = 0
   ·exact he
   ·rw [if_pos he] at h; exact absurd h he
  have hq : d.apply c = (⟨(Nd.add d.top c.parent c.index (nodeOf c.ents)).1, putAll d.at_ c.ents, d.segs + segsOf c.ents⟩, { Cm.z with kind := 2, id := (nodeOf c.ents).id }, 0) := by
   rw [ha, Dr.add, if_neg hW, if_neg (fun e => e hf), if_neg hm, if_neg (fun e => e he)]
  rw [← ha, hq] at hB
  refine key hq ?_
  clear key hq h h1n e1 ha
  obtain ⟨n, hn⟩ := (Whole_iff _).1 (Decidable.of_not_not hW)
  have hids := Tk_order hn
  simp only [List.map_nil, List.append_nil] at hids
  rw [nodeOf_eq hn] at hB he ⊢
  have hu := hA.undoAdd hB (Prod.ext rfl he : Nd.add d.top c.parent c.index n = (_, 0))
  have hco := Nd.count_add hA.od he
  simp only at hB hu ⊢
  rw [Dr.apply, if_neg (by show ¬ (2 : Int) = 1; decide), if_pos rfl, Dr.remove]
  simp only [hu]
  rw [if_neg (fun e => e rfl)]
  refine ⟨rfl, ?_, rfl⟩
  simp only
  funext i
  have hie := ents_ids (Dr.get ⟨(Nd.add d.top c.parent c.index n).1, putAll d.at_ c.ents, d.segs + segsOf c.ents⟩) n
  by_cases hi : i ∈ n.order
  ·rw [dropAll_mem (by rw [hie]; exact hi)]
   cases hat : d.at_ i with
   | none => rfl
   | some a =>
    have h1 := mem_count.1 ((hdom i).1 (by rw [hat]; rfl)).2
    have h2 := mem_count.1 hi
    have h3 := hco i
    have h4 := nodup_count hB.od i
    omega
  ·rw [dropAll_ne (by rw [hie]; exact hi), putAll_ne (by rw [hids]; exact hi)]
 by_cases k2 : c.kind = 2
 ·have ha : d.apply c = d.remove c := by rw [Dr.apply, if_neg k1, if_pos k2]
  have he : (Nd.remove d.top c.id).2.2.2.2 = 0 := by
   by_cases he : (Nd.remove d.top c.id).2.2.2.2 = 0
   ·exact he
   ·rw [ha, Dr.remove] at h
    simp only at h
    rw [if_pos he] at h; exact absurd h he
  have hq : d.apply c = (⟨(Nd.remove d.top c.id).1, dropAll d.at_ (ents d.get (Nd.remove d.top c.id).2.1), d.segs - segsOf (ents d.get (Nd.remove d.top c.id).2.1)⟩, { Cm.z with kind := 1, parent := (Nd.remove d.top c.id).2.2.1, index := (Nd.remove d.top c.id).2.2.2.1, ents := ents d.get (Nd.remove d.top c.id).2.1 }, 0) := by
   rw [ha, Dr.remove]
   simp only
   rw [if_neg (fun e => e he)]
  rw [hq] at hB
  refine key hq ?_
  clear key hq h h1n ha
  have hu := hA.undoRemove hF.good (t1 := (Nd.remove d.top c.id).1) (n := (Nd.remove d.top c.id).2.1) (q := (Nd.remove d.top c.id).2.2.1) (k := (Nd.remove d.top c.id).2.2.2.1) (i := c.id) (by rw [← he])
  obtain ⟨o1, o2, o3, o4, o5⟩ := hA.rem_nodup he
  have hcr := hA.count_rem he
  have hgr := hA.gcount_rem he
  have h0n : (0 : Int) ∉ (Nd.remove d.top c.id).2.1.order := o3 0 (mem0 hB)
  generalize (Nd.remove d.top c.id).1 = t1 at *
  generalize (Nd.remove d.top c.id).2.1 = n at *
  generalize (Nd.remove d.top c.id).2.2.1 = q at *
  generalize (Nd.remove d.top c.id).2.2.2.1 = k at *
  have htk := Tk_ents0 d.get n
  have hids := ents_ids d.get n
  have hgs := ents_gs d.get n
  have hat : ∀ x ∈ ents d.get n, x.atr = d.get x.id := fun x hx => ents_atr hx
  have hin : ∀ i ∈ n.order, i ≠ 0 ∧ i ∈ d.top.order := fun i hi => ⟨fun e => h0n (by rw [← e]; exact hi), by
   rw [mem_count]
   have h1 := hcr i
   have h2 := mem_count.1 hi
   omega⟩
  have hwr : firstWrong (ents d.get n) = 0 := firstWrong_none _ fun y hy => by
   have h1 : (y.id, y.grp) ∈ n.gs := by rw [← hgs]; exact List.mem_map_of_mem (f := fun x : Ent => (x.id, x.grp)) hy
   have h2 : (y.id, y.grp) ∈ d.top.gs := by
    have h3 := hgr (y.id, y.grp)
    have h4 := List.count_pos_iff.2 h1
    exact List.count_pos_iff.1 (by omega)
   have h5 := hF.inv.right _ h2 (hin _ (gs_id h1)).1
   rw [hat y hy]
   exact h5
  simp only at hu ⊢
  rw [Dr.apply, if_pos rfl, Dr.add]
  simp only
  have hmost := hF.inv.most
  rw [if_neg (fun e => e ((Whole_iff _).2 ⟨n, htk⟩)), if_neg (fun e => e hwr), if_neg (by omega), nodeOf_eq htk, hu, if_neg (fun e => e rfl)]
  refine ⟨rfl, ?_, rfl⟩
  simp only
  funext i
  by_cases hi : i ∈ n.order
  ·have hi2 : i ∈ (ents d.get n).map Ent.id := by rw [hids]; exact hi
   obtain ⟨x, hx, rfl⟩ := List.mem_map.1 hi2
   rw [putAll_at (by rw [hids]; exact o2) hx, hat x hx]
   obtain ⟨a, ha⟩ := Option.isSome_iff_exists.1 ((hdom x.id).2 (hin _ hi))
   rw [Dr.get, ha]; rfl
  ·rw [putAll_ne (by rw [hids]; exact hi), dropAll_ne (by rw [hids]; exact hi)]
 by_cases k3 : c.kind = 3
 ·have ha : d.apply c = d.move c := by rw [Dr.apply, if_neg k1, if_neg k2, if_pos k3]
  have he : (Nd.move d.top c.id c.parent c.index).2 = 0 := by
   by_cases he : (Nd.move d.top c.id c.parent c.index).2 = 0
   ·exact he
   ·rw [ha, Dr.move] at h
    simp only at h
    rw [if_pos he] at h; exact absurd h he
  obtain ⟨_, _, _, hw⟩ := hA.rem_small (Nd.move_rem he)
  have hq : d.apply c = ({ d with top := (Nd.move d.top c.id c.parent c.index).1 }, { Cm.z with kind := 3, id := c.id, parent := (Nd.remove d.top c.id).2.2.1, index := (Nd.remove d.top c.id).2.2.2.1 }, 0) := by
   rw [ha, Dr.move]
   simp only [hw]
   rw [if_neg (fun e => e he)]
   rfl
  rw [hq] at hB
  refine key hq ?_
  clear key hq h h1n ha
  have hu := hA.undoMove hF.good hB (Prod.ext rfl he : Nd.move d.top c.id c.parent c.index = (_, 0)) hw
  simp only at hu ⊢
  rw [Dr.apply, if_neg (by show ¬ (3 : Int) = 1; decide), if_neg (by show ¬ (3 : Int) = 2; decide), if_pos rfl, Dr.move]
  simp only [hu]
  rw [if_neg (fun e => e rfl)]
  exact ⟨rfl, rfl, rfl⟩
 by_cases k4 : c.kind = 4
 ·have ha : d.apply c = d.wrap c := by rw [Dr.apply, if_neg k1, if_neg k2, if_neg k3, if_pos k4]
  have hc : c.atr.check true = 0 := by
   by_cases hc : c.atr.check true = 0
   ·exact hc
   ·rw [ha, Dr.wrap, if_pos hc] at h; exact absurd h hc
  have he : (Nd.wrap d.top c.id c.parent c.index c.count).2 = 0 := by
   by_cases he : (Nd.wrap d.top c.id c.parent c.index c.count).2 = 0
   ·exact he
   ·rw [ha, Dr.wrap, if_neg (fun e => e hc)] at h
    simp only at h
    rw [if_pos he] at h; exact absurd h he
  have hq : d.apply c = (⟨(Nd.wrap d.top c.id c.parent c.index c.count).1, upAt d.at_ c.id c.atr, d.segs⟩, { Cm.z with kind := 5, id := c.id }, 0) := by
   rw [ha, Dr.wrap, if_neg (fun e => e hc)]
   simp only
   rw [if_neg (fun e => e he)]
  rw [hq] at hB
  refine key hq ?_
  clear key hq h h1n ha
  have hu := hA.undoWrap hB (Prod.ext rfl he : Nd.wrap d.top c.id c.parent c.index c.count = (_, 0))
  have hcn := Nd.count_wrap hA.od he c.id
  have hod := nodup_count hB.od c.id
  simp only at hu hod ⊢
  rw [Dr.apply, if_neg (by show ¬ (5 : Int) = 1; decide), if_neg (by show ¬ (5 : Int) = 2; decide), if_neg (by show ¬ (5 : Int) = 3; decide), if_neg (by show ¬ (5 : Int) = 4; decide), if_pos rfl, Dr.unwrap]
  simp only [hu]
  rw [if_neg (fun e => e rfl)]
  refine ⟨rfl, ?_, rfl⟩
  simp only
  funext i
  rw [downAt, upAt]
  by_cases hi : i = c.id
  ·rw [if_pos hi]
   cases hat : d.at_ i with
   | none => rfl
   | some a =>
    have h1 := mem_count.1 ((hdom i).1 (by rw [hat]; rfl)).2
    rw [if_pos rfl] at hcn
    rw [hi] at h1
    omega
  ·rw [if_neg hi, if_neg hi]
 by_cases k5 : c.kind = 5
 ·have ha : d.apply c = d.unwrap c := by rw [Dr.apply, if_neg k1, if_neg k2, if_neg k3, if_neg k4, if_pos k5]
  have he : (Nd.unwrap d.top c.id).2.2.2.2 = 0 := by
   by_cases he : (Nd.unwrap d.top c.id).2.2.2.2 = 0
   ·exact he
   ·rw [ha, Dr.unwrap] at h
    simp only at h
    rw [if_pos he] at h; exact absurd h he
  have hq : d.apply c = (⟨(Nd.unwrap d.top c.id).1, downAt d.at_ c.id, d.segs⟩, { Cm.z with kind := 4, id := c.id, parent := (Nd.unwrap d.top c.id).2.1, index := (Nd.unwrap d.top c.id).2.2.1, count := (Nd.unwrap d.top c.id).2.2.2.1, atr := d.get c.id }, 0) := by
   rw [ha, Dr.unwrap]
   simp only
   rw [if_neg (fun e => e he)]
  rw [hq] at hB
  refine key hq ?_
  clear key hq h h1n ha
  have hu := hA.undoUnwrap hF.good (t1 := (Nd.unwrap d.top c.id).1) (q := (Nd.unwrap d.top c.id).2.1) (k := (Nd.unwrap d.top c.id).2.2.1) (c := (Nd.unwrap d.top c.id).2.2.2.1) (i := c.id) (by rw [← he])
  have hcn := hA.count_unwrap he c.id
  have hgn := hA.gcount_unwrap he (c.id, true)
  rw [if_pos rfl] at hcn hgn
  have hin : c.id ∈ d.top.order := mem_count.2 (by omega)
  have hgin : (c.id, true) ∈ d.top.gs := List.count_pos_iff.1 (by omega)
  obtain ⟨_, _, _, _, hid0⟩ := hA.rem_nodup (Nd.unwrap_rem he)
  have hck : (d.get c.id).check true = 0 := hF.inv.right _ hgin hid0
  simp only at hu ⊢
  rw [Dr.apply, if_neg (by show ¬ (4 : Int) = 1; decide), if_neg (by show ¬ (4 : Int) = 2; decide), if_neg (by show ¬ (4 : Int) = 3; decide), if_pos rfl, Dr.wrap]
  simp only [hu]
  rw [if_neg (fun e => e hck), if_neg (fun e => e rfl)]
  refine ⟨rfl, ?_, rfl⟩
  simp only
  funext i
  rw [upAt, downAt]
  by_cases hi : i = c.id
  ·rw [if_pos hi]
   obtain ⟨a, ha⟩ := Option.isSome_iff_exists.1 ((hdom c.id).2 ⟨hid0, hin⟩)
   rw [hi, Dr.get, ha]; rfl
  ·rw [if_neg hi, if_neg hi]
 by_cases k6 : 6 ≤ c.kind ∧ c.kind ≤ 12
 case neg =>
  rw [Dr.apply, if_neg k1, if_neg k2, if_neg k3, if_neg k4, if_neg k5, if_neg k6] at h
  exact absurd h (by show ¬ (33 : Int) = 0; decide)
 have ha : d.apply c = d.set c := by rw [Dr.apply, if_neg k1, if_neg k2, if_neg k3, if_neg k4, if_neg k5, if_pos k6]
 rw [ha, Dr.set] at h
 obtain ⟨hid0, e1⟩ := h1n h (by decide)
 rw [e1] at h
 cases hat : d.at_ c.id with
 | none => rw [hat] at h; exact absurd h (by show ¬ (31 : Int) = 0; decide)
 | some a =>
  rw [hat] at h
  simp only at h
  obtain ⟨hgr, e2⟩ := h1n h (by decide)
  rw [e2] at h
  have hc : (change a c).2.2 = 0 := by
   by_cases hc : (change a c).2.2 = 0
   ·exact hc
   ·rw [if_pos hc] at h; exact absurd h hc
  rw [if_neg (fun e => e hc)] at h
  obtain ⟨hm, _⟩ := h1n h (by decide)
  have hq : d.apply c = (⟨d.top, upAt d.at_ c.id (change a c).1, d.segs + (change a c).1.path.length - a.path.length⟩, { (change a c).2.1 with id := c.id }, 0) := by
   rw [ha, Dr.set, if_neg hid0, hat]
   simp only
   rw [if_neg hgr, if_neg (fun e => e hc), if_neg hm]
  refine key hq ?_
  clear key hq h h1n ha e1 e2
  have hin := ((hdom c.id).1 (by rw [hat]; rfl)).2
  have hgin : ∃ g, (c.id, g) ∈ d.top.gs := by
   rw [← Nd.order_gs] at hin
   obtain ⟨p, hp, e⟩ := List.mem_map.1 hin
   exact ⟨p.2, by rw [← e]; exact hp⟩
  obtain ⟨g, hgin⟩ := hgin
  have hck : (d.get c.id).check g = 0 := hF.inv.right _ hgin hid0
  rw [Dr.get, hat] at hck
  obtain ⟨b1, b2, b3, b4, b5⟩ := change_back (c := c) hck k6.1 k6.2 hc c.id
  have hmost := hF.inv.most
  simp only [Option.getD_some] at b1 b2 b3 b4 b5
  generalize hbk : ({ (change a c).2.1 with id := c.id } : Cm) = bk at *
  have hbi : bk.id = c.id := by rw [← hbk]
  have hbkk : bk.kind = (change a c).2.1.kind := by rw [← hbk]
  rw [← hbkk] at b3 b4 b5
  simp only
  rw [Dr.apply, if_neg (by omega), if_neg (by omega), if_neg (by omega), if_neg (by omega), if_neg (by omega), if_pos ⟨b3, b4⟩, Dr.set, hbi, if_neg hid0]
  simp only [upAt, if_pos]
  rw [if_neg (fun hh => hgr ⟨b5 hh.1, hh.2⟩), if_neg (fun e => e b2), b1, if_neg (by omega)]
  refine ⟨rfl, ?_, rfl⟩
  simp only
  funext i
  rw [upAt]
  by_cases hi : i = c.id
  ·rw [if_pos hi, hi, hat]
  ·rw [if_neg hi, upAt, if_neg hi]
theorem apply_back (hA : Abs A d.top) (hF : Fit d) (hdom : ∀ i, (d.at_ i).isSome = true ↔ i ≠ 0 ∧ i ∈ d.top.order) (hB : Abs B (d.apply c).1.top) (hdom' : ∀ i, ((d.apply c).1.at_ i).isSome = true ↔ i ≠ 0 ∧ i ∈ (d.apply c).1.top.order) (h : (d.apply c).2.2 = 0) :
  ((d.apply c).1.apply (d.apply c).2.1).1 = d ∧ ((d.apply c).1.apply (d.apply c).2.1).2.2 = 0 := by
 obtain ⟨h1, h2, h3⟩ := back_core hA hF hdom hB h
 have hF' := hF.apply hA hdom hB
 have hi := inv_apply (B := A) hF'.inv hB hdom' (c := (d.apply c).2.1) (by rw [h1]; exact hA)
 exact ⟨Dr.ext_of h1 h2 hF.inv hi, h3⟩
end
end Go.Dc

namespace Go.Sl
open Go.Ls
section
variable {Γ : Cx} {ρ : Nat → Value} {I : Mem} {L : List HP} {Q : Post}
theorem WC.freezeL {α : Type} {R : Rep α} [hR : RepMono R] {c : Code} {e sz : Nat} {v : Value} {l : List α} {p : HP} {L' : List HP} (k : Nat) (hL : L[k]? = some p) (hp : OwnL R e sz I l v p) [hE : EraL L k L'] (next : ∀ I', I.le I' → LsAt R I' l v → WC Γ c ρ I' L' Q) : WC Γ c ρ I L Q := by
 obtain ⟨css, rfl, h2⟩ := hp
 exact WC.freeze k hL fun I' hI hA => next I' hI ⟨css, hA, h2.imp fun a b h => hR.mono h hI⟩
theorem WC.cutC {id : Nat} {x y : Code} (mid : (Nat → Value) → Mem → List HP → Prop) (h : WC Γ x ρ I L (Exit.inBlock id (Exit.then (fun a w => ∃ ρ' I' L', mid ρ' I' L' ∧ Loc Γ.n Γ.ds ρ' a ∧ Sat Γ.E w I' L') Q)))
  (k : ∀ ρ' I' L', mid ρ' I' L' → WC Γ y ρ' I' L' Q) : WC Γ x ρ I L (Exit.inBlock id (Exit.then (y.wp Γ.P Q) Q)) := fun a w ha hw => wp_mono (h a w ha hw) fun e a w hq => by
 have key : (∃ ρ' I' L', mid ρ' I' L' ∧ Loc Γ.n Γ.ds ρ' a ∧ Sat Γ.E w I' L') → y.wp Γ.P Q a w := fun ⟨ρ', I', L', hm, ha, hw⟩ => k ρ' I' L' hm a w ha hw
 cases e with
 | normal => exact key hq
 | exit j =>
  simp only [Exit.inBlock] at hq ⊢
  split
  ·rename_i hj; rw [if_pos hj] at hq; exact key hq
  ·rename_i hj; rw [if_neg hj] at hq; exact hq
 | _ => exact hq
end
end Go.Sl
namespace Go.Dc
open Go.Sl Go.Ls Go.Tr
section
variable {A B : Ar} {d : Dr} {c : Cm}
theorem back_fits (hA : Abs A d.top) (hF : Fit d) (hF' : Fit (d.apply c).1) : (d.apply c).2.1.ents.length ≤ 100000 ∧ (d.apply c).1.segs + segsOf (d.apply c).2.1.ents ≤ 1048576 := by
 have hm : d.segs ≤ 1048576 := hF.inv.most
 have hm' : (d.apply c).1.segs ≤ 1048576 := hF'.inv.most
 have nil : ∀ {q : Dr × Cm × Int}, q.1.segs ≤ 1048576 → q.2.1.ents = [] → q.2.1.ents.length ≤ 100000 ∧ q.1.segs + segsOf q.2.1.ents ≤ 1048576 := by
  intro q h1 h2
  rw [h2]
  refine ⟨Nat.zero_le _, ?_⟩
  have : segsOf [] = 0 := rfl
  omega
 by_cases k2 : c.kind = 2
 ·have ha : d.apply c = d.remove c := by rw [Dr.apply, if_neg (by omega), if_pos k2]
  rw [ha, Dr.remove] at hm' ⊢
  simp only at hm' ⊢
  split
  ·refine ⟨Nat.zero_le _, ?_⟩
   show d.segs + 0 ≤ _
   omega
  ·have h1 := ents_len d.get (Nd.remove d.top c.id).2.1
   have h2 := (hA.remSize c.id).2
   refine ⟨by simp only; omega, ?_⟩
   simp only
   omega
 ·refine nil hm' ?_
  rw [Dr.apply]
  by_cases k1 : c.kind = 1
  ·rw [if_pos k1, Dr.add]
   repeat' split
   all_goals rfl
  rw [if_neg k1, if_neg k2]
  by_cases k3 : c.kind = 3
  ·rw [if_pos k3, Dr.move]
   simp only
   split <;> rfl
  rw [if_neg k3]
  by_cases k4 : c.kind = 4
  ·rw [if_pos k4, Dr.wrap]
   split
   ·rfl
   ·simp only
    split <;> rfl
  rw [if_neg k4]
  by_cases k5 : c.kind = 5
  ·rw [if_pos k5, Dr.unwrap]
   simp only
   split <;> rfl
  rw [if_neg k5]
  by_cases k6 : 6 ≤ c.kind ∧ c.kind ≤ 12
  ·rw [if_pos k6]
   have hch : ∀ a, (change a c).2.1.ents = [] := fun a => by
    rw [change]
    repeat' split
    all_goals rfl
   rw [Dr.set]
   repeat' split
   all_goals first | rfl | exact hch _
  ·rw [if_neg k6]
end
end Go.Dc
namespace Go.Proofs.YtggcpoleklcmkaaGreatDoor
open Go.Sl Go.Ls Go.Tr Go.Dc
attribute [local irreducible] WC WL WX WK WA WAK Val Ctr RunRes ResIs Rd At sl box pt Exit.then Exit.inBlock bodyPost Code.wp wpList
end Go.Proofs.YtggcpoleklcmkaaGreatDoor

namespace Go.Dc
open Go.Sl Go.Ls Go.Tr
inductive Und (d0 : Dr) : Dr → List Cm → Prop where
 | nil (h : Fit d0) : Und d0 d0 []
 | snoc {d d' : Dr} {bs : List Cm} {b : Cm} (h : Und d0 d bs) (hf : Fit d') (h1 : (d'.apply b).1 = d) (h2 : (d'.apply b).2.2 = 0) (h3 : b.ents.length ≤ 100000) (h4 : d'.segs + segsOf b.ents ≤ 1048576) : Und d0 d' (bs ++ [b])
theorem Und.none {d0 d : Dr} {bs : List Cm} (h : Und d0 d bs) (hb : bs = []) : d = d0 := by
 cases h with
 | nil => rfl
 | snoc => simp at hb
theorem Und.one {d0 d' : Dr} {bs : List Cm} {b : Cm} (h : Und d0 d' (bs ++ [b])) : ∃ d, Und d0 d bs ∧ Fit d' ∧ (d'.apply b).1 = d ∧ (d'.apply b).2.2 = 0 ∧ b.ents.length ≤ 100000 ∧ d'.segs + segsOf b.ents ≤ 1048576 := by
 generalize hq : bs ++ [b] = q at h
 cases h with
 | nil => simp at hq
 | snoc h hf h1 h2 h3 h4 =>
  obtain ⟨e1, e2⟩ := List.append_inj' hq rfl
  cases e2
  subst e1
  exact ⟨_, h, hf, h1, h2, h3, h4⟩
end Go.Dc
namespace Go.Proofs.YtggcpoleklcmkaaGreatDoor
open Go.Sl Go.Ls Go.Tr Go.Dc
attribute [local irreducible] WC WL WX WK WA WAK Val Ctr RunRes ResIs Rd At sl box pt Exit.then Exit.inBlock bodyPost Code.wp wpList
theorem dBacks (l : List Cm) (v : Value) (m : List Cm) (u : Value) (I : Mem) (hN : NeedAt I) (hv : LsAt Cm.rep I l v) (hu : LsAt Cm.rep I m u) :
  Ctr Tryz.prog 5 [v, u] I [] (KeepR [] fun v _ => v = .bool true) := by
 have hv0 := hv
 have hu0 := hu
 obtain ⟨a1, c1, rfl⟩ := hv.sl
 obtain ⟨a2, c2, rfl⟩ := hu.sl
 refine Ctr.intro Tryz.func5 rfl rfl rfl fun E F => ?_
 refine jS (jg rfl (jM (jB (jS (jc rfl ?_)))))
 refine WL.callE rfl rfl (small_ctr l 15 _ _ hv0) rfl (fun hs => ?_) (fun hs => ?_)
 case refine_2 =>
  refine jl rfl (jb rfl (jH (jH (jH (jk rfl (jM (jF (jS (WL.callP [] rfl rfl (dAwake _ hN) rfl ?_)))))))))
  rintro _ I2 _ hI2 ⟨rfl, rfl⟩
  refine jW ?_
  refine jg rfl (jM (jR (jU ?_)))
  exact jP [] (jr1 rfl (jtB rfl)) ⟨rfl, rfl⟩
 refine jl rfl (jb rfl (jG (jc rfl (jG ?_))))
 refine WL.callE rfl rfl (small_ctr m 20 _ _ hu0) rfl (fun hs2 => ?_) (fun hs2 => ?_)
 case refine_2 =>
  refine jG (jl rfl (jk rfl (jM (jF (jS (WL.callP [] rfl rfl (dAwake _ hN) rfl ?_))))))
  rintro _ I2 _ hI2 ⟨rfl, rfl⟩
  refine jW ?_
  refine jg rfl (jM (jR (jU ?_)))
  exact jP [] (jr1 rfl (jtB rfl)) ⟨rfl, rfl⟩
 refine jG (jl rfl (jk rfl (jM (jE (jV (jK (jc rfl (WL.callP [] rfl rfl (dPlay l _ _ hN hv0 hs.1 (by have := hs.2; omega)) rfl ?_))))))))
 rintro _ I1 _ hI1 ⟨D0, d0, g, mb, cnt, kv, at_, f, rfl, rfl, hD0, hF0, hkv, hat, hag, hsg⟩
 have hll : (l.length : Int) ≤ 15 := hs.2
 have hmm : (m.length : Int) ≤ 20 := hs2.2
 refine jW ?_
 refine je rfl (jm (Val.extractP rfl rfl) (jm (Val.extractP rfl rfl) (jm (Val.extractB rfl rfl) (ji rfl (ji rfl (jg rfl (jM (jB (jS (jb rfl (jl rfl (jM (jE (jV (jK (jh rfl (jM (jB (jS (jc rfl (jm (jo rfl) (ja rfl (jM (WC.block (WC.slNil 59 51 ?_)))))))))))))))))))))))))
 refine WC.nApp ?_
 refine WC.cutC (fun ρ' I' L' => ∃ (D : Dm) (d : Dr) (bs : List Cm) (a : Option Addr) (n : Nat), I1.le I' ∧ ρ' 5 = ptr D.b ∧ ρ' 6 = ptr g ∧ ρ' 8 = .slice a bs.length n ∧ L' = F :: mbox g mb d0.top kv :: mp mb f cnt :: D.hp ∧ DAbs I' D d ∧ Und d0 d bs ∧ LsAt Cm.rep I' bs (.slice a bs.length n) ∧ bs.length ≤ 20) ?_ ?_
 ·refine WC.loop (fun n ρ' I' L' => ∃ (k : Nat) (D : Dm) (d : Dr) (bs : List Cm) (a : Option Addr) (c : Nat) (p : HP), n = m.length - k ∧ k ≤ m.length ∧ I1.le I' ∧ ρ' 5 = ptr D.b ∧ ρ' 6 = ptr g ∧ ρ' 8 = .slice a bs.length c ∧ ρ' 33 = .slice a2 m.length c2 ∧ ρ' 34 = vi m.length ∧ ρ' 35 = vi k ∧
    L' = F :: mbox g mb d0.top kv :: mp mb f cnt :: (D.hp ++ [p]) ∧ DAbs I' D d ∧ Fit d ∧ Und d0 d bs ∧ OwnL Cm.rep 59 51 I' bs (.slice a bs.length c) p ∧ bs.length ≤ k ∧ d.segs ≤ 18000 + 1200 * (k : Int))
   m.length ⟨0, D0, d0, [], _, _, _, rfl, by omega, Mem.le.refl _, rfl, rfl, rfl, rfl, rfl, rfl, rfl, hD0, hF0, .nil hF0, OwnL.nil _ _ _ _, Nat.le_refl _, by omega⟩ ?_
  rintro n ρ' I2 L' ⟨k, D, d, bs, a, cp, p, rfl, hk, hI2, r5, r6, r8, r33, r34, r35, rfl, hD, hF, hU, hp, hbl, hsk⟩
  refine ju6 r35 r34 r33 r8 r6 r5 ?_
  change WC _ _ _ _ [F, mbox g mb d0.top kv, mp mb f cnt, docBox D.b D.A.b D.mb D.segs, mp D.mb D.f D.cnt, _, _, _, _, _, p] _
  have hJ := hI1.trans hI2
  by_cases hkn : k < m.length
  ·obtain ⟨bq, off, cap, cs, he, ⟨e, t, u, dd, q, rfl, hc⟩, hA⟩ := (hu0.mono hJ).get k hkn
   cases he
   have hsm := hs2.1 _ (List.getElem_mem hkn)
   generalize m[k] = c at *
   have hse := small_segs hsm
   have hle : c.ents.length ≤ 100000 := by have := hsm.1; omega
   have hc0 := hc
   obtain ⟨x0, y0, x1, y1, x2, y2, x3, y3, x4, y4, rfl, rfl, rfl, rfl, rfl⟩ := hc.sl
   refine jS (jy rfl rfl (jM (jB (jF (jV (jA (jB (WC.block (jS (jm (jZ rfl rfl) (jm (Val.loadI rfl (by assumption) rfl) ?_)))))))))))
   refine WL.alloc rfl (fun _ => ?_)
   refine jW ?_
   refine WL.stA 11 rfl rfl rfl rfl ?_
   refine jN (jd rfl (jm (jt 11 rfl rfl rfl) ?_))
   rename_i g10
   refine WL.callP [3, 3, 3, 3, 3, 3, 3] rfl rfl (dApply D d c _ _ _ _ _ _ (hN.mono hJ) hD hc0 hle hF.inv.nonneg (by omega)) rfl ?_
   rintro _ I3 _ hI3 ⟨D', bcs, rfl, ⟨e', t', u', d', q', rfl, hbk⟩, hb, rfl, hD'⟩
   have hF' := hF.apply (c := c) hD.abs hD.dom hD'.abs
   have hbf := back_fits (c := c) hD.abs hF hF'
   have hsg' := apply_segs (d := d) hsm
   have hbk0 := hbk
   obtain ⟨p0, o0, p1, o1, p2, o2, p3, o3, p4, o4, rfl, rfl, rfl, rfl, rfl⟩ := hbk.sl
   rw [← hb]
   refine jW ?_
   by_cases he : (d.apply c).2.2 = 0
   ·obtain ⟨b1, b2⟩ := apply_back hD.abs hF hD.dom hD'.abs hD'.dom he
    rw [he]
    refine je rfl (jm (Val.extractA rfl rfl) (jm (jq rfl rfl) (WL.alloc rfl (fun _ => ?_))))
    refine jW ?_
    refine WL.stA 12 rfl rfl rfl rfl ?_
    refine jf rfl (jN (ja rfl (jw rfl rfl (jM (jF (jD (jc rfl (jm (jt 12 rfl rfl rfl) (WL.buildSlice (by with_unfolding_all exact rfl) rfl (by with_unfolding_all exact rfl) rfl (fun _ => ?_))))))))))
    refine jW ?_
    rename_i g11 g49
    refine WL.appOne (y := (d.apply c).2.1) (cs := Cm.cs (d.apply c).2.1 (.slice p0 (d.apply c).2.1.ents.length o0) (.slice p1 (d.apply c).2.1.atr.sty.fill.stops.length o1) (.slice p2 (d.apply c).2.1.atr.sty.pen.stops.length o2) (.slice p3 (d.apply c).2.1.atr.sty.dash.length o3) (.slice p4 (d.apply c).2.1.atr.path.length o4)) 3 13 rfl rfl (hp.mono hI3) rfl rfl ⟨_, _, _, _, _, rfl, hbk0⟩ rfl rfl (by rfl) (by decide) (by omega) (by unfold maxLen; omega) rfl fun aa cc p' hp' => ?_
    refine WL.nSet ?_
    have hbl1 : (bs ++ [(d.apply c).2.1]).length = bs.length + 1 := by rw [List.length_append]; rfl
    exact jh rfl (jC (WX.inNormal (jA (jD (jX rfl rfl (ja rfl (jC (WX.conv (fun w h => h.sub [0, 0, 0, 2, 2, 2, 2, 2, 2, 2, 0] rfl) (WX.thenK (WK.round (m.length - (k + 1)) (by omega) ⟨k + 1, D', (d.apply c).1, bs ++ [(d.apply c).2.1], aa, cc, p', rfl, by omega, hI2.trans hI3, rfl, rfl, by rw [hbl1]; rfl, rfl, rfl, rfl, rfl, hD', hF', .snoc hU hF' b1 b2 hbf.1 hbf.2, by rw [hbl1]; exact hp', by omega, by omega⟩))))))))))
   ·obtain ⟨q1, q2⟩ := apply_err he
    rw [q1] at hD'
    refine je rfl (jm (Val.extractA rfl rfl) (jm (jq rfl rfl) (WL.alloc rfl (fun _ => ?_))))
    refine jW ?_
    refine WL.stA 12 rfl rfl rfl rfl ?_
    exact jf rfl (jN (ja rfl (jv rfl rfl (jM (jE (jV (WX.inNormal (jA (jD (jX rfl rfl (ja rfl (jC (WX.conv (fun w h => h.sub [0, 0, 0, 2, 2, 2, 2, 2, 2, 2, 0] rfl) (WX.thenK (WK.round (m.length - (k + 1)) (by omega) ⟨k + 1, D', d, bs, a, cp, p, rfl, by omega, hI2.trans hI3, rfl, rfl, rfl, rfl, rfl, rfl, rfl, hD', hF, hU, hp.mono hI3, by omega, by omega⟩)))))))))))))))
  ·have hkl : k = m.length := by omega
   subst hkl
   refine WC.freezeL 10 rfl hp fun I3 hI3 hw => ?_
   refine jS (jx rfl rfl (jM (jB (jE (WC.exit (WX.thenExit (WX.thenExit (WX.inHit ?_))))))))
   refine WX.thenK (WK.meet ?_)
   exact ⟨D, d, bs, a, cp, hI2.trans hI3, rfl, rfl, rfl, rfl, hD.mono hI3, hU, hw, by omega⟩
 rintro ρ' I2 L' ⟨D, d, bs, a, n, hI2, r5, r6, r8, rfl, hD, hU, hbs, hbl⟩
 refine ju3 r8 r6 r5 ?_
 have hJ2 := hI1.trans hI2
 refine jB (jS (jc rfl (jm (jo rfl) (jm (Val.sub rfl rfl (wrap_i64 (by omega) (by omega))) ?_))))
 refine jf rfl (jM (WC.block ?_))
 refine WC.loop (fun n' ρ' I' L' => ∃ (k : Nat) (D : Dm) (d : Dr), n' = k ∧ k ≤ bs.length ∧ I2.le I' ∧ ρ' 5 = ptr D.b ∧ ρ' 6 = ptr g ∧ ρ' 8 = .slice a bs.length n ∧ ρ' 13 = vi ((k : Int) - 1) ∧
   L' = F :: mbox g mb d0.top kv :: mp mb f cnt :: D.hp ∧ DAbs I' D d ∧ Und d0 d (bs.take k))
  bs.length ⟨bs.length, D, d, rfl, Nat.le_refl _, Mem.le.refl _, rfl, rfl, rfl, rfl, rfl, hD, by rw [List.take_length]; exact hU⟩ ?_
 clear hD hU
 rintro k ρ' I3 L' ⟨_, D, d, rfl, hk, hI3, r5, r6, r8, r13, rfl, hD, hU⟩
 refine ju4 r13 r8 r6 r5 ?_
 have hJ3 := hJ2.trans hI3
 by_cases hk0 : k = 0
 ·subst hk0
  have hdd := hU.none (List.take_zero)
  subst hdd
  refine jB (jS (ja rfl (jm (Val.geq rfl rfl (decide_eq_false (by omega))) ?_)))
  refine jM (jE (WC.exit (WX.thenExit (WX.thenExit (WX.inHit (jK (jd rfl (jd rfl (WL.callR [1, 1, 1, 1, 1, 1, 1, 1, 1] rfl rfl rfl (mIs D d _ hD hF0.inv kv at_ f g mb cnt (hkv.mono (hI2.trans hI3)) (hat.mono (hI2.trans hI3)) hag) rfl ?_)))))))))
  rintro _ I4 hI4 rfl
  refine jb rfl (jG (WL.callP [] rfl rfl (dAwake _ (hN.mono (hJ3.trans hI4))) rfl ?_))
  rintro _ I5 _ hI5 ⟨rfl, rfl⟩
  refine jW ?_
  have hJ := (hJ3.trans hI4).trans hI5
  refine jk rfl (jg rfl (jM (jR ?_)))
  exact jP [] (jr1 rfl (jtB rfl)) ⟨rfl, rfl⟩
 ·obtain ⟨j, rfl⟩ : ∃ j, k = j + 1 := ⟨k - 1, by omega⟩
  have hj : j < bs.length := by omega
  have hj1 : ((j + 1 : Nat) : Int) - 1 = j := by omega
  rw [List.take_succ_eq_append_getElem hj] at hU
  obtain ⟨d1, hU1, hF, b1, b2, b3, b4⟩ := hU.one
  obtain ⟨bq, off, cap, cs, he, ⟨e, t, u, dd, q, rfl, hc⟩, hA⟩ := (hbs.mono hI3).get j hj
  cases he
  generalize bs[j] = c at *
  rw [hj1]
  have hc0 := hc
  obtain ⟨x0, y0, x1, y1, x2, y2, x3, y3, x4, y4, rfl, rfl, rfl, rfl, rfl⟩ := hc.sl
  refine jB (jS (ja rfl (jm (Val.geq rfl rfl (decide_eq_true (by omega))) ?_)))
  refine jM (jF (jV (jA (jB (WC.block (jS (jd rfl (jc rfl (ja rfl (jm (jZ rfl rfl) (jm (Val.loadI rfl (by assumption) rfl) ?_)))))))))))
  refine WL.callP [3, 3, 3, 3, 3, 3, 3] rfl rfl (dApply D d c _ _ _ _ _ _ (hN.mono hJ3) hD hc0 b3 hF.inv.nonneg b4) rfl ?_
  rintro _ I4 _ hI4 ⟨D', bcs, rfl, ⟨e', t', u', d', q', rfl, hbk⟩, hb, rfl, hD'⟩
  obtain ⟨_, _, _, _, _, _, _, _, _, _, rfl, rfl, rfl, rfl, rfl⟩ := hbk.sl
  rw [b1] at hD'
  rw [← hb, b2]
  refine jW ?_
  refine je rfl (jm (Val.extractA rfl rfl) (jm (jq rfl rfl) (WL.alloc rfl (fun _ => ?_))))
  refine jW ?_
  refine WL.stA 10 rfl rfl rfl rfl ?_
  refine jf rfl (jN (ja rfl (jz rfl rfl (jM (jE (jV (WX.inNormal (jA (jD (ja rfl (jm (Val.sub rfl rfl (wrap_i64 (by omega) (by omega))) ?_)))))))))))
  exact jf rfl (jC (WX.conv (fun w h => h.sub [0, 0, 0, 0, 0, 0, 0, 0, 0, 0] rfl) (WX.thenK (WK.round j (by omega) ⟨j, D', d1, rfl, by omega, hI3.trans hI4, rfl, rfl, rfl, rfl, rfl, hD', hU1⟩))))
end Go.Proofs.YtggcpoleklcmkaaGreatDoor
