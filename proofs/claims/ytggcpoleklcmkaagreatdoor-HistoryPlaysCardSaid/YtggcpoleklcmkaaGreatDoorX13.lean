/-
 Drawings, the plain law: how many segments there are; groups have none.
-/
import Derived.Test.YtggcpoleklcmkaaGreatDoorX12
import Derived.Test.YtggcpoleklcmkaaGreatDoorX2
import Derived.Test.YtggcpoleklcmkaaGreatDoorX3
import Derived.Test.YtggcpoleklcmkaaGreatDoorX4
set_option linter.unusedVariables false
set_option linter.unusedSimpArgs false
set_option maxRecDepth 100000
set_option maxHeartbeats 8000000
namespace Go.Dc
open Go.Sl Go.Ls Go.Tr
def tot (h : Int → Int) : List (Int × Bool) → Int
 | [] => 0
 | p :: l => h p.1 + tot h l
theorem tot_app (h : Int → Int) : ∀ (a b : List (Int × Bool)), tot h (a ++ b) = tot h a + tot h b
 | [], b => by rw [tot]; simp
 | p :: a, b => by rw [List.cons_append, tot, tot, tot_app h a b]; omega
theorem tot_perm (h : Int → Int) {a b : List (Int × Bool)} (hp : a.Perm b) : tot h a = tot h b := by
 induction hp with
 | nil => rfl
 | cons x _ ih => rw [tot, tot, ih]
 | swap x y l => rw [tot, tot, tot, tot]; omega
 | trans _ _ h1 h2 => rw [h1, h2]
theorem tot_congr {h g : Int → Int} : ∀ {l : List (Int × Bool)}, (∀ p ∈ l, h p.1 = g p.1) → tot h l = tot g l
 | [], _ => rfl
 | p :: l, hh => by rw [tot, tot, hh p (.head _), tot_congr fun q hq => hh q (.tail _ hq)]
theorem tot_nonneg {h : Int → Int} : ∀ {l : List (Int × Bool)}, (∀ p ∈ l, 0 ≤ h p.1) → 0 ≤ tot h l
 | [], _ => Int.le_refl _
 | p :: l, hh => by
  rw [tot]
  have := hh p (.head _)
  have := tot_nonneg fun q hq => hh q (List.mem_cons_of_mem p hq)
  omega
theorem tot_up {h : Int → Int} {i v : Int} : ∀ {l : List (Int × Bool)}, (l.map Prod.fst).Nodup → i ∈ l.map Prod.fst → tot (fun k => if k = i then v else h k) l = tot h l + v - h i
 | [], _, hi => by cases hi
 | p :: l, hn, hi => by
  rw [List.map_cons, List.nodup_cons] at hn
  rw [tot, tot]
  by_cases hp : p.1 = i
  ·have : tot (fun k => if k = i then v else h k) l = tot h l := tot_congr fun q hq => if_neg fun e => hn.1 (by rw [hp, ← e]; exact List.mem_map_of_mem hq)
   rw [this, if_pos hp, hp]
   omega
  ·rw [if_neg hp, tot_up hn.2 ((List.mem_cons.1 hi).resolve_left fun e => hp e.symm)]
   omega
def Dr.len (d : Dr) (i : Int) : Int := ((d.at_ i).getD Atr.z).path.length
theorem Dr.len_nn (d : Dr) (i : Int) : 0 ≤ d.len i := Int.natCast_nonneg _
theorem len_of {d d' : Dr} {i : Int} (h : d'.at_ i = d.at_ i) : d'.len i = d.len i := by rw [Dr.len, Dr.len, h]
theorem get_of {d d' : Dr} {i : Int} (h : d'.at_ i = d.at_ i) : d'.get i = d.get i := by rw [Dr.get, Dr.get, h]
structure DInv (d : Dr) : Prop where
 seg : d.segs = tot d.len d.top.gs
 right : ∀ p ∈ d.top.gs, p.1 ≠ 0 → (d.get p.1).check p.2 = 0
 most : d.segs ≤ mostSegs
theorem DInv.nonneg {d : Dr} (h : DInv d) : 0 ≤ d.segs := by rw [h.seg]; exact tot_nonneg fun p _ => d.len_nn p.1
theorem perm_gs {a b c : List (Int × Bool)} (h : ∀ x, a.count x = b.count x + c.count x) : a.Perm (b ++ c) := by
 rw [List.perm_iff_count]
 intro x
 rw [List.count_append, h x]
theorem perm_gs0 {a b : List (Int × Bool)} (h : ∀ x, a.count x = b.count x) : a.Perm b := List.perm_iff_count.2 h
theorem segsOf_ents (at_ : Int → Atr) (n : Nd) : segsOf (ents at_ n) = tot (fun i => ((at_ i).path.length : Int)) n.gs := by
 refine Nd.rec (motive_1 := fun n => segsOf (ents at_ n) = tot (fun i => ((at_ i).path.length : Int)) n.gs) (motive_2 := fun l => segsOf (entss at_ l) = tot (fun i => ((at_ i).path.length : Int)) (Nd.gss l)) ?_ ?_ ?_ n
 ·intro i g ks h
  rw [ents, Nd.gs, tot, ← h]; rfl
 ·rw [entss, Nd.gss]; rfl
 ·intro k ks h1 h2
  rw [entss, Nd.gss, tot_app, ← h1, ← h2]
  have : ∀ a b : List Ent, segsOf (a ++ b) = segsOf a + segsOf b := by
   intro a b
   induction a with
   | nil => show segsOf b = 0 + segsOf b; omega
   | cons x a ih => show (x.atr.path.length : Int) + segsOf (a ++ b) = (x.atr.path.length : Int) + segsOf a + segsOf b; omega
  exact this _ _
theorem tk_gs : ∀ (f : Nat), (∀ (l : List Ent) n r, tk f l = some (n, r) → l.map (fun x => (x.id, x.grp)) = n.gs ++ r.map (fun x => (x.id, x.grp))) ∧ ∀ (k : Nat) (l : List Ent) ns r, tks f k l = some (ns, r) → l.map (fun x => (x.id, x.grp)) = Nd.gss ns ++ r.map (fun x => (x.id, x.grp)) := by
 intro f
 induction f with
 | zero =>
  refine ⟨fun l n r h => ?_, fun k l ns r h => ?_⟩
  ·rw [tk] at h; cases h
  ·cases k with
   | zero => rw [tks] at h; cases h; rw [Nd.gss]; rfl
   | succ k => rw [tks] at h; cases h
 | succ f ih =>
  refine ⟨fun l n r h => ?_, fun k l ns r h => ?_⟩
  ·cases l with
   | nil => rw [tk] at h; cases h
   | cons x l =>
    rw [tk] at h
    split at h
    ·cases h
    ·split at h
     ·cases h
     ·rename_i ks rest he
      cases h
      rw [List.map_cons, ih.2 _ _ _ _ he, Nd.gs]; rfl
  ·cases k with
   | zero => rw [tks] at h; cases h; rw [Nd.gss]; rfl
   | succ k =>
    rw [tks] at h
    split at h
    ·cases h
    ·rename_i n r1 he
     split at h
     ·cases h
     ·rename_i ns' r2 he2
      cases h
      rw [ih.1 _ _ _ he, ih.2 _ _ _ _ he2, Nd.gss, List.append_assoc]
theorem Tk_gs {l : List Ent} {n : Nd} (h : Tk l = some (n, [])) : l.map (fun x => (x.id, x.grp)) = n.gs := by
 have := (tk_gs _).1 _ _ _ h
 simpa using this
theorem putAll_ne : ∀ {l : List Ent} {f : Int → Option Atr} {i : Int}, i ∉ l.map Ent.id → putAll f l i = f i
 | [], f, i, _ => rfl
 | x :: l, f, i, h => by
  rw [List.map_cons, List.mem_cons, not_or] at h
  rw [putAll, putAll_ne h.2, upAt, if_neg h.1]
theorem putAll_at : ∀ {l : List Ent} {f : Int → Option Atr} {x : Ent}, (l.map Ent.id).Nodup → x ∈ l → putAll f l x.id = some x.atr
 | [], _, _, _, h => by cases h
 | y :: l, f, x, hn, hx => by
  rw [List.map_cons, List.nodup_cons] at hn
  rw [putAll]
  rcases List.mem_cons.1 hx with rfl | hx
  ·rw [putAll_ne hn.1, upAt, if_pos rfl]
  ·exact putAll_at hn.2 hx
theorem dropAll_ne : ∀ {l : List Ent} {f : Int → Option Atr} {i : Int}, i ∉ l.map Ent.id → dropAll f l i = f i
 | [], f, i, _ => rfl
 | x :: l, f, i, h => by
  rw [List.map_cons, List.mem_cons, not_or] at h
  rw [dropAll, dropAll_ne h.2, downAt, if_neg h.1]
theorem gs_id {n : Nd} {p : Int × Bool} (h : p ∈ n.gs) : p.1 ∈ n.order := by rw [← Nd.order_gs]; exact List.mem_map_of_mem h
theorem find_gs {n : Nd} (p : Int × Bool) : n.order.Nodup → p ∈ n.gs → ∃ m, Nd.find p.1 n = some m ∧ m.grp = p.2 := by
 refine Nd.rec (motive_1 := fun n => n.order.Nodup → p ∈ n.gs → ∃ m, Nd.find p.1 n = some m ∧ m.grp = p.2) (motive_2 := fun l => (Nd.orders l).Nodup → p ∈ Nd.gss l → ∃ m, Nd.finds p.1 l = some m ∧ m.grp = p.2) ?_ ?_ ?_ n
 ·intro i g ks ih ho hp
  rw [Nd.order, List.nodup_cons] at ho
  rw [Nd.gs] at hp
  rw [Nd.find]
  rcases List.mem_cons.1 hp with rfl | hp
  ·exact ⟨_, if_pos rfl, rfl⟩
  ·have hm : p.1 ∈ Nd.orders ks := by
    have := gs_id (n := .mk i g ks) (p := p) (by rw [Nd.gs]; exact List.mem_cons_of_mem _ hp)
    rw [Nd.order] at this
    rcases List.mem_cons.1 this with e | e
    ·exfalso
     have h2 : ∀ (l : List Nd), p ∈ Nd.gss l → p.1 ∈ Nd.orders l := by
      intro l
      induction l with
      | nil => intro h; rw [Nd.gss] at h; cases h
      | cons k l ih2 =>
       intro h
       rw [Nd.gss] at h
       rw [Nd.orders]
       rcases List.mem_append.1 h with h | h
       ·exact List.mem_append.2 (.inl (gs_id h))
       ·exact List.mem_append.2 (.inr (ih2 h))
     exact ho.1 (by rw [← e]; exact h2 ks hp)
    ·exact e
   rw [if_neg fun e => ho.1 (by rw [e]; exact hm)]
   exact ih ho.2 hp
 ·intro _ hp; rw [Nd.gss] at hp; cases hp
 ·intro k l h1 h2 ho hp
  rw [Nd.orders, List.nodup_append] at ho
  rw [Nd.gss] at hp
  rw [Nd.finds]
  rcases List.mem_append.1 hp with hp | hp
  ·obtain ⟨m, hm, hg⟩ := h1 ho.1 hp
   rw [hm]; exact ⟨m, rfl, hg⟩
  ·obtain ⟨m, hm, hg⟩ := h2 ho.2.1 hp
   cases hk : Nd.find p.1 k with
   | some y =>
    exfalso
    have hq : p.1 ∈ k.order := (Nd.find_some p.1 k).1 (by rw [hk]; rfl)
    have hl : p.1 ∈ Nd.orders l := by
     have h2 : ∀ (l : List Nd), p ∈ Nd.gss l → p.1 ∈ Nd.orders l := by
      intro l
      induction l with
      | nil => intro h; rw [Nd.gss] at h; cases h
      | cons k l ih2 =>
       intro h
       rw [Nd.gss] at h
       rw [Nd.orders]
       rcases List.mem_append.1 h with h | h
       ·exact List.mem_append.2 (.inl (gs_id h))
       ·exact List.mem_append.2 (.inr (ih2 h))
     exact h2 l hp
    exact ho.2.2 _ hq _ hl rfl
   | none => exact ⟨m, hm, hg⟩
theorem firstWrong_all : ∀ {l : List Ent}, firstWrong l = 0 → ∀ x ∈ l, x.atr.check x.grp = 0
 | [], _, _, h => by cases h
 | y :: l, h, x, hx => by
  rw [firstWrong] at h
  split at h
  ·rename_i h1; exact absurd h h1
  ·rename_i h1
   rcases List.mem_cons.1 hx with rfl | hx
   ·exact Decidable.of_not_not h1
   ·exact firstWrong_all h x hx
theorem check_grp {a : Atr} (h : a.check true = 0) : a.path.length = 0 := by
 rw [Atr.check] at h
 split at h
 ·exact absurd h (by decide)
 rename_i h1
 split at h
 ·rename_i h2; exact absurd h h2
 rename_i h2
 split at h
 ·rename_i h3; exact absurd h h3
 split at h
 ·exact absurd h (by decide)
 ·rename_i h4
  have : ¬ 0 < a.path.length := fun e => h4 ⟨rfl, e⟩
  omega
theorem DInv.grp {d : Dr} (h : DInv d) (h0 : d.at_ 0 = none) {p : Int × Bool} (hp : p ∈ d.top.gs) (hg : p.2 = true) : d.len p.1 = 0 := by
 by_cases e : p.1 = 0
 ·rw [e, Dr.len, h0]; rfl
 ·have := h.right p hp e
  rw [hg] at this
  have := check_grp this
  show ((d.get p.1).path.length : Int) = 0
  rw [this]; rfl
section
variable {A B : Ar} {d : Dr} {c : Cm}
theorem inv_add (hi : DInv d) (hA : Abs A d.top) (hB : Abs B (d.add c).1.top) : DInv (d.add c).1 := by
 rw [Dr.add] at hB ⊢
 split at hB
 ·rename_i h; rw [if_pos h]; exact hi
 rename_i hw; rw [if_neg hw]
 split at hB
 ·rename_i h; rw [if_pos h]; exact hi
 rename_i hf; rw [if_neg hf]
 split at hB
 ·rename_i h; rw [if_pos h]; exact hi
 rename_i hm; rw [if_neg hm]
 split at hB
 ·rename_i h; rw [if_pos h]; exact hi
 rename_i he; rw [if_neg he]
 have he := Decidable.of_not_not he
 have hf := firstWrong_all (Decidable.of_not_not hf)
 obtain ⟨n, hn⟩ := (Whole_iff _).1 (Decidable.of_not_not hw)
 have hno := nodeOf_eq hn
 have hids := Tk_order hn
 have hgs := Tk_gs hn
 rw [hno] at hB he ⊢
 simp only [List.map_nil, List.append_nil] at hids
 have hc := Nd.gcount_add hA.od he
 have hco := Nd.count_add hA.od he
 have hod := hB.od
 simp only at hB hod ⊢
 generalize (Nd.add d.top c.parent c.index n).1 = top' at *
 have hperm := perm_gs hc
 have hpo : top'.order.Perm (d.top.order ++ n.order) := by
  rw [List.perm_iff_count]; intro x; rw [List.count_append, hco x]
 have hnd := (hpo.nodup_iff).1 hod
 rw [List.nodup_append] at hnd
 have hids2 : (c.ents.map Ent.id).Nodup := by rw [hids]; exact hnd.2.1
 have hold : ∀ p ∈ d.top.gs, Dr.at_ ⟨top', putAll d.at_ c.ents, d.segs + segsOf c.ents⟩ p.1 = d.at_ p.1 := fun p hp => putAll_ne (by rw [hids]; exact fun h => hnd.2.2 _ (gs_id hp) _ h rfl)
 have hnew : ∀ x ∈ c.ents, Dr.at_ ⟨top', putAll d.at_ c.ents, d.segs + segsOf c.ents⟩ x.id = some x.atr := fun x hx => putAll_at hids2 hx
 generalize hd' : (⟨top', putAll d.at_ c.ents, d.segs + segsOf c.ents⟩ : Dr) = d' at *
 have ht : d'.top = top' := by rw [← hd']
 have hs : d'.segs = d.segs + segsOf c.ents := by rw [← hd']
 have hlenN : ∀ x ∈ c.ents, d'.len x.id = x.atr.path.length := fun x hx => by rw [Dr.len, hnew x hx]; rfl
 refine ⟨?_, fun p hp hp0 => ?_, by rw [hs]; omega⟩
 ·rw [hs, ht, tot_perm _ hperm, tot_app, tot_congr fun p hp => len_of (hold p hp), ← hi.seg, ← hgs]
  congr 1
  have : ∀ l : List Ent, (∀ x ∈ l, d'.len x.id = x.atr.path.length) → segsOf l = tot d'.len (l.map fun x => (x.id, x.grp)) := by
   intro l
   induction l with
   | nil => intro _; rfl
   | cons x l ih =>
    intro h
    rw [List.map_cons, tot, ← ih fun y hy => h y (List.mem_cons_of_mem _ hy)]
    simp only [h x (.head _)]
    rfl
  exact this _ hlenN
 ·rw [ht] at hp
  rcases List.mem_append.1 (hperm.mem_iff.1 hp) with hp | hp
  ·rw [get_of (hold p hp)]; exact hi.right p hp hp0
  ·rw [← hgs] at hp
   obtain ⟨x, hx, rfl⟩ := List.mem_map.1 hp
   simp only
   rw [Dr.get, hnew x hx]
   exact hf x hx
theorem inv_remove (hi : DInv d) (hA : Abs A d.top) : DInv (d.remove c).1 := by
 rw [Dr.remove]
 simp only
 split
 ·exact hi
 ·rename_i h0
  have h0 := Decidable.of_not_not h0
  have hg := hA.gcount_rem h0
  obtain ⟨o1, o2, o3, o4, o5⟩ := hA.rem_nodup h0
  have hp := perm_gs (fun x => (hg x).symm)
  have hids := ents_ids d.get (Nd.remove d.top c.id).2.1
  have hs := segsOf_ents d.get (Nd.remove d.top c.id).2.1
  have hnn := segsOf_nonneg (ents d.get (Nd.remove d.top c.id).2.1)
  generalize (Nd.remove d.top c.id).1 = t1 at *
  generalize (Nd.remove d.top c.id).2.1 = n at *
  have hl : ∀ p ∈ t1.gs, Dr.at_ ⟨t1, dropAll d.at_ (ents d.get n), d.segs - segsOf (ents d.get n)⟩ p.1 = d.at_ p.1 := fun p hp =>
   dropAll_ne (show p.1 ∉ (ents d.get n).map Ent.id by rw [hids]; exact o3 _ (gs_id hp))
  refine ⟨?_, fun p hp2 hp0 => ?_, ?_⟩
  ·show d.segs - segsOf _ = tot _ t1.gs
   have h3 : segsOf (ents d.get n) = tot d.len n.gs := hs
   rw [tot_congr fun p hp => len_of (hl p hp), hi.seg, tot_perm _ hp, tot_app, h3]
   omega
  ·rw [get_of (hl p hp2)]; exact hi.right p (hp.mem_iff.2 (List.mem_append.2 (.inl hp2))) hp0
  ·have := hi.most
   show d.segs - segsOf _ ≤ _
   omega
theorem inv_move (hi : DInv d) (hA : Abs A d.top) : DInv (d.move c).1 := by
 rw [Dr.move]
 simp only
 split
 ·exact hi
 ·rename_i h0
  have hp := perm_gs0 (hA.gcount_move (Decidable.of_not_not h0))
  refine ⟨?_, fun p hp2 hp0 => hi.right p (hp.mem_iff.1 hp2) hp0, hi.most⟩
  show d.segs = tot _ _
  rw [tot_perm _ hp]; exact hi.seg
theorem inv_wrap (hi : DInv d) (hA : Abs A d.top) (hB : Abs B (d.wrap c).1.top) : DInv (d.wrap c).1 := by
 rw [Dr.wrap] at hB ⊢
 split at hB
 ·rename_i h; rw [if_pos h]; exact hi
 rename_i hc; rw [if_neg hc]
 have hc := Decidable.of_not_not hc
 simp only at hB ⊢
 split at hB
 ·rename_i h; rw [if_pos h]; exact hi
 rename_i h0; rw [if_neg h0]
 have h0 := Decidable.of_not_not h0
 have hg := Nd.gcount_wrap hA.od h0
 have hod := hB.od
 have hcn := Nd.count_wrap hA.od h0
 simp only at hod ⊢
 generalize (Nd.wrap d.top c.id c.parent c.index c.count).1 = t1 at *
 have hp : t1.gs.Perm ((c.id, true) :: d.top.gs) := List.perm_iff_count.2 fun x => by rw [List.count_cons, hg x]; simp only [beq_iff_eq]
 have hni : c.id ∉ d.top.order := fun h => by
  have h1 := hcn c.id
  rw [if_pos rfl] at h1
  have h2 := nodup_count hod c.id
  have h3 := mem_count.1 h
  omega
 have hl : ∀ p ∈ d.top.gs, Dr.at_ ⟨t1, upAt d.at_ c.id c.atr, d.segs⟩ p.1 = d.at_ p.1 := fun p hp =>
  if_neg (show ¬ p.1 = c.id from fun e => hni (by rw [← e]; exact gs_id hp))
 have h1 : Dr.at_ ⟨t1, upAt d.at_ c.id c.atr, d.segs⟩ c.id = some c.atr := if_pos rfl
 have h2 : Dr.len ⟨t1, upAt d.at_ c.id c.atr, d.segs⟩ c.id = 0 := by
  rw [Dr.len, h1, Option.getD_some, check_grp hc]; rfl
 refine ⟨?_, fun p hp2 hp0 => ?_, hi.most⟩
 ·show d.segs = _
  rw [tot_perm _ hp, tot, tot_congr fun p hp => len_of (hl p hp), ← hi.seg]
  simp only [h2]
  omega
 ·rcases List.mem_cons.1 (hp.mem_iff.1 hp2) with rfl | hp2
  ·simp only
   rw [Dr.get, h1]; exact hc
  ·rw [get_of (hl p hp2)]; exact hi.right p hp2 hp0
theorem inv_unwrap (hi : DInv d) (hA : Abs A d.top) (h00 : d.at_ 0 = none) : DInv (d.unwrap c).1 := by
 rw [Dr.unwrap]
 simp only
 split
 ·exact hi
 ·rename_i h0
  have h0 := Decidable.of_not_not h0
  have hg := hA.gcount_unwrap h0
  have hcn := hA.count_unwrap h0
  generalize (Nd.unwrap d.top c.id).1 = t1 at *
  have hp : d.top.gs.Perm ((c.id, true) :: t1.gs) := List.perm_iff_count.2 fun x => by rw [List.count_cons, ← hg x]; simp only [beq_iff_eq]
  have hni : c.id ∉ t1.order := fun h => by
   have h1 := hcn c.id
   rw [if_pos rfl] at h1
   have h2 := nodup_count hA.od c.id
   have h3 := mem_count.1 h
   omega
  have hl : ∀ p ∈ t1.gs, Dr.at_ ⟨t1, downAt d.at_ c.id, d.segs⟩ p.1 = d.at_ p.1 := fun p hp =>
   if_neg (show ¬ p.1 = c.id from fun e => hni (by rw [← e]; exact gs_id hp))
  have h1 : d.len c.id = 0 := hi.grp h00 (p := (c.id, true)) (hp.mem_iff.2 (.head _)) rfl
  refine ⟨?_, fun p hp2 hp0 => ?_, hi.most⟩
  ·show d.segs = _
   rw [tot_congr fun p hp => len_of (hl p hp), hi.seg, tot_perm _ hp, tot, h1]
   omega
  ·rw [get_of (hl p hp2)]; exact hi.right p (hp.mem_iff.2 (.tail _ hp2)) hp0
theorem inv_set (hi : DInv d) (hA : Abs A d.top) (hdom : ∀ i, (d.at_ i).isSome = true ↔ i ≠ 0 ∧ i ∈ d.top.order) (h6 : 6 ≤ c.kind) : DInv (d.set c).1 := by
 rw [Dr.set]
 split
 ·exact hi
 rename_i h0
 split
 ·exact hi
 rename_i a ha
 split
 ·exact hi
 rename_i hk
 split
 ·exact hi
 rename_i hc
 split
 ·exact hi
 rename_i hm
 have hin := ((hdom c.id).1 (by rw [ha]; rfl)).2
 have hda : d.len c.id = a.path.length := by rw [Dr.len, ha]; rfl
 have hga : d.get c.id = a := by rw [Dr.get, ha]; rfl
 have hn : (d.top.gs.map Prod.fst).Nodup := by rw [Nd.order_gs]; exact hA.od
 have hlen : Dr.len ⟨d.top, upAt d.at_ c.id (change a c).1, d.segs + (change a c).1.path.length - a.path.length⟩ = fun k => if k = c.id then ((change a c).1.path.length : Int) else d.len k := by
  funext k
  rw [Dr.len, Dr.len]
  simp only [upAt]
  split <;> rfl
 refine ⟨?_, fun p hp hp0 => ?_, by show d.segs + _ - _ ≤ _; omega⟩
 ·show d.segs + _ - _ = tot _ d.top.gs
  rw [hlen, tot_up hn (by rw [Nd.order_gs]; exact hin), ← hi.seg, hda]
 ·have hr := hi.right p hp hp0
  by_cases e : p.1 = c.id
  ·rw [e, hga] at hr
   have h1 : Dr.get ⟨d.top, upAt d.at_ c.id (change a c).1, d.segs + (change a c).1.path.length - a.path.length⟩ p.1 = (change a c).1 := by
    rw [Dr.get]; simp only [upAt, if_pos e]; rfl
   rw [h1]
   refine change_right hr (fun h8 => ?_) (Decidable.of_not_not hc) h6
   cases hg : p.2 with
   | false => rfl
   | true =>
    exact absurd ⟨h8, by
     obtain ⟨m, hm, hmg⟩ := find_gs p hA.od hp
     rw [← e, hm]
     show m.grp = true
     rw [hmg, hg]⟩ hk
  ·rw [get_of (d := d) (show upAt d.at_ c.id (change a c).1 p.1 = d.at_ p.1 from if_neg e)]
   exact hr
theorem inv_apply (hi : DInv d) (hA : Abs A d.top) (hdom : ∀ i, (d.at_ i).isSome = true ↔ i ≠ 0 ∧ i ∈ d.top.order) (hB : Abs B (d.apply c).1.top) : DInv (d.apply c).1 := by
 rw [Dr.apply] at hB ⊢
 by_cases k1 : c.kind = 1
 ·rw [if_pos k1] at hB ⊢; exact inv_add hi hA hB
 rw [if_neg k1] at hB ⊢
 by_cases k2 : c.kind = 2
 ·rw [if_pos k2]; exact inv_remove hi hA
 rw [if_neg k2] at hB ⊢
 by_cases k3 : c.kind = 3
 ·rw [if_pos k3]; exact inv_move hi hA
 rw [if_neg k3] at hB ⊢
 by_cases k4 : c.kind = 4
 ·rw [if_pos k4] at hB ⊢; exact inv_wrap hi hA hB
 rw [if_neg k4] at hB ⊢
 by_cases k5 : c.kind = 5
 ·rw [if_pos k5]
  exact inv_unwrap hi hA (by
   cases h : d.at_ 0 with
   | none => rfl
   | some a => exact absurd rfl ((hdom 0).1 (by rw [h]; rfl)).1)
 rw [if_neg k5] at hB ⊢
 by_cases k6 : 6 ≤ c.kind ∧ c.kind ≤ 12
 ·rw [if_pos k6]; exact inv_set hi hA hdom k6.1
 ·rw [if_neg k6]; exact hi
theorem set_top : (d.set c).1.top = d.top := by
 rw [Dr.set]
 repeat' split
 all_goals rfl
theorem apply_step : Nd.Step1 d.top (d.apply c).1.top := by
 rw [Dr.apply]
 by_cases k1 : c.kind = 1
 ·rw [if_pos k1, Dr.add]
  repeat' split
  all_goals first | exact .inl rfl | exact .inr (.inl ⟨_, _, _, rfl⟩)
 rw [if_neg k1]
 by_cases k2 : c.kind = 2
 ·rw [if_pos k2, Dr.remove]
  simp only
  split
  ·exact .inl rfl
  ·exact .inr (.inr (.inl ⟨_, rfl⟩))
 rw [if_neg k2]
 by_cases k3 : c.kind = 3
 ·rw [if_pos k3, Dr.move]
  simp only
  split
  ·exact .inl rfl
  ·exact .inr (.inr (.inr (.inl ⟨_, _, _, rfl⟩)))
 rw [if_neg k3]
 by_cases k4 : c.kind = 4
 ·rw [if_pos k4, Dr.wrap]
  simp only
  repeat' split
  all_goals first | exact .inl rfl | exact .inr (.inr (.inr (.inr (.inl ⟨_, _, _, _, rfl⟩))))
 rw [if_neg k4]
 by_cases k5 : c.kind = 5
 ·rw [if_pos k5, Dr.unwrap]
  simp only
  split
  ·exact .inl rfl
  ·exact .inr (.inr (.inr (.inr (.inr ⟨_, rfl⟩))))
 rw [if_neg k5]
 by_cases k6 : 6 ≤ c.kind ∧ c.kind ≤ 12
 ·rw [if_pos k6, set_top]; exact .inl rfl
 ·rw [if_neg k6]; exact .inl rfl
structure Fit (d : Dr) : Prop where
 inv : DInv d
 good : Nd.Good d.top
theorem Fit.apply (h : Fit d) (hA : Abs A d.top) (hdom : ∀ i, (d.at_ i).isSome = true ↔ i ≠ 0 ∧ i ∈ d.top.order) (hB : Abs B (d.apply c).1.top) : Fit (d.apply c).1 :=
 ⟨inv_apply h.inv hA hdom hB, h.good.step hA apply_step⟩
theorem Fit.new : Fit Dr.new := ⟨⟨rfl, fun p hp h => by
  have hp : p ∈ [((0 : Int), true)] := hp
  exact absurd (by rw [List.mem_singleton.1 hp]) h, by decide⟩, Nd.Rch.start.good⟩
theorem checked_le {l : List Sg} : (checked l).1.length ≤ l.length := by
 rw [checked]
 split
 ·exact Nat.zero_le _
 ·exact Nat.le_refl _
theorem change_le {a : Atr} (h : c.small) : (change a c).1.path.length ≤ a.path.length + 30 := by
 have hp : c.atr.path.length ≤ 30 := h.2.1.1
 rw [change]
 by_cases k : c.kind = 6
 ·rw [if_pos k]; show a.path.length ≤ _; omega
 rw [if_neg k]
 by_cases k : c.kind = 7
 ·rw [if_pos k]; show a.path.length ≤ _; omega
 rw [if_neg k]
 by_cases k : c.kind = 8
 ·rw [if_pos k]; show c.atr.path.length ≤ _; omega
 rw [if_neg k]
 by_cases k : c.kind = 9
 ·rw [if_pos k]
  show (pathInsert a.path c.i c.seg).1.length ≤ _
  rw [pathInsert]
  split
  ·exact Nat.zero_le _
  split
  ·exact Nat.zero_le _
  rename_i h2
  have := checked_le (l := a.path.take c.i.toNat ++ c.seg :: a.path.drop c.i.toNat)
  simp only [List.length_append, List.length_cons, List.length_take, List.length_drop] at this
  omega
 rw [if_neg k]
 by_cases k : c.kind = 10
 ·rw [if_pos k]
  show (pathDelete a.path c.i).1.length ≤ _
  rw [pathDelete]
  split
  ·exact Nat.zero_le _
  have := checked_le (l := a.path.take c.i.toNat ++ a.path.drop (c.i.toNat + 1))
  simp only [List.length_append, List.length_cons, List.length_take, List.length_drop] at this
  omega
 rw [if_neg k]
 by_cases k : c.kind = 11
 ·rw [if_pos k]
  show (pathPut a.path c.i c.k c.point).1.length ≤ _
  rw [pathPut]
  split
  ·exact Nat.zero_le _
  split
  ·exact Nat.zero_le _
  have := checked_le (l := a.path.set c.i.toNat ((sgAt a.path c.i).setPoint c.k.toNat c.point))
  simp only [List.length_set] at this
  omega
 rw [if_neg k]
 show (pathSplit a.path c.i).1.length ≤ _
 rw [pathSplit]
 split
 ·exact Nat.zero_le _
 split
 ·exact Nat.zero_le _
 split
 ·exact Nat.zero_le _
 simp only [List.length_append, List.length_cons, List.length_take, List.length_drop]
 omega
end
end Go.Dc

namespace Go.Dc
open Go.Sl Go.Ls Go.Tr
end Go.Dc
namespace Go.Proofs.YtggcpoleklcmkaaGreatDoor
open Go.Sl Go.Ls Go.Tr Go.Dc
attribute [local irreducible] WC WL WX WK WA WAK Val Ctr RunRes ResIs Rd At sl box pt Exit.then Exit.inBlock bodyPost Code.wp wpList
end Go.Proofs.YtggcpoleklcmkaaGreatDoor

namespace Go.Dc
open Go.Sl Go.Ls Go.Tr
section
variable {A B : Ar} {d : Dr} {c : Cm} {at_ : Int → Option Atr}
end
end Go.Dc

namespace Go.Proofs.YtggcpoleklcmkaaGreatDoor
open Go.Sl Go.Ls Go.Tr Go.Dc
attribute [local irreducible] WC WL WX WK WA WAK Val Ctr RunRes ResIs Rd At sl box pt Exit.then Exit.inBlock bodyPost Code.wp wpList
end Go.Proofs.YtggcpoleklcmkaaGreatDoor

namespace Go.Dc
open Go.Sl Go.Ls Go.Tr
theorem Tk_ents (at_ : Int → Atr) (n : Nd) : ∀ r, Tk (ents at_ n ++ r) = some (n, r) := by
 refine Nd.rec (motive_1 := fun n => ∀ r, Tk (ents at_ n ++ r) = some (n, r)) (motive_2 := fun l => ∀ r, Tks l.length (entss at_ l ++ r) = some (l, r)) ?_ ?_ ?_ n
 ·intro i g ks h r
  rw [ents, List.cons_append, Tk_cons]
  have h1 := entss_len at_ ks
  have h2 := Nd.len_le_sizes ks
  rw [if_neg (by simp only [List.length_append]; omega)]
  simp only [Int.toNat_natCast, h r]
 ·intro r
  rw [entss]; exact Tks_zero _
 ·intro k ks h1 h2 r
  rw [entss, List.length_cons, Tks_succ, List.append_assoc, h1]
  simp only [h2 r]
theorem Tk_ents0 (at_ : Int → Atr) (n : Nd) : Tk (ents at_ n) = some (n, []) := by
 have := Tk_ents at_ n []
 rwa [List.append_nil] at this
theorem ents_gs (at_ : Int → Atr) (n : Nd) : (ents at_ n).map (fun x => (x.id, x.grp)) = n.gs := Tk_gs (Tk_ents0 at_ n)
theorem dropAll_mem : ∀ {l : List Ent} {f : Int → Option Atr} {i : Int}, i ∈ l.map Ent.id → dropAll f l i = none
 | [], _, _, h => by cases h
 | x :: l, f, i, h => by
  rw [dropAll]
  by_cases hi : i ∈ l.map Ent.id
  ·exact dropAll_mem hi
  ·rw [dropAll_ne hi]
   have : i = x.id := by
    rcases List.mem_cons.1 h with h | h
    ·exact h
    ·exact absurd h hi
   rw [downAt, if_pos this]
theorem Dr.ext_of {d e : Dr} (ht : e.top = d.top) (ha : e.at_ = d.at_) (hd : DInv d) (he : DInv e) : e = d := by
 have h1 := hd.seg
 have h2 := he.seg
 obtain ⟨t, a, s⟩ := d
 obtain ⟨t', a', s'⟩ := e
 simp only at ht ha
 subst ht; subst ha
 simp only at h1 h2
 congr 1
 rw [h1, h2]
 rfl
section
variable {A B : Ar} {d : Dr} {c : Cm}
theorem apply_err (h : (d.apply c).2.2 ≠ 0) : (d.apply c).1 = d ∧ (d.apply c).2.1 = Cm.z := by
 have key : ∀ {q : Dr × Cm × Int}, q.2.2 ≠ 0 → (q.2.2 = 0 ∨ (q.1 = d ∧ q.2.1 = Cm.z)) → q.1 = d ∧ q.2.1 = Cm.z := fun h1 h2 => h2.resolve_left h1
 refine key h ?_
 rw [Dr.apply]
 by_cases k1 : c.kind = 1
 ·rw [if_pos k1, Dr.add]
  repeat' split
  all_goals first | exact .inr ⟨rfl, rfl⟩ | exact .inl rfl
 rw [if_neg k1]
 by_cases k2 : c.kind = 2
 ·rw [if_pos k2, Dr.remove]
  simp only
  split
  all_goals first | exact .inr ⟨rfl, rfl⟩ | exact .inl rfl
 rw [if_neg k2]
 by_cases k3 : c.kind = 3
 ·rw [if_pos k3, Dr.move]
  simp only
  split
  all_goals first | exact .inr ⟨rfl, rfl⟩ | exact .inl rfl
 rw [if_neg k3]
 by_cases k4 : c.kind = 4
 ·rw [if_pos k4, Dr.wrap]
  simp only
  repeat' split
  all_goals first | exact .inr ⟨rfl, rfl⟩ | exact .inl rfl
 rw [if_neg k4]
 by_cases k5 : c.kind = 5
 ·rw [if_pos k5, Dr.unwrap]
  simp only
  split
  all_goals first | exact .inr ⟨rfl, rfl⟩ | exact .inl rfl
 rw [if_neg k5]
 by_cases k6 : 6 ≤ c.kind ∧ c.kind ≤ 12
 ·rw [if_pos k6, Dr.set]
  repeat' split
  all_goals first | exact .inr ⟨rfl, rfl⟩ | exact .inl rfl
 ·rw [if_neg k6]; exact .inr ⟨rfl, rfl⟩
theorem back_core (hA : Abs A d.top) (hF : Fit d) (hdom : ∀ i, (d.at_ i).isSome = true ↔ i ≠ 0 ∧ i ∈ d.top.order) (hB : Abs B (d.apply c).1.top) (h : (d.apply c).2.2 = 0) :
  ((d.apply c).1.apply (d.apply c).2.1).1.top = d.top ∧ ((d.apply c).1.apply (d.apply c).2.1).1.at_ = d.at_ ∧ ((d.apply c).1.apply (d.apply c).2.1).2.2 = 0 := by
 have key : ∀ {q : Dr × Cm × Int}, d.apply c = q → (q.1.apply q.2.1).1.top = d.top ∧ (q.1.apply q.2.1).1.at_ = d.at_ ∧ (q.1.apply q.2.1).2.2 = 0 → ((d.apply c).1.apply (d.apply c).2.1).1.top = d.top ∧ ((d.apply c).1.apply (d.apply c).2.1).1.at_ = d.at_ ∧ ((d.apply c).1.apply (d.apply c).2.1).2.2 = 0 := by
  rintro q rfl h
  exact h
 have h1n : ∀ {P : Prop} [Decidable P] {q : Dr × Cm × Int} {e : Int} , (if P then (d, Cm.z, e) else q).2.2 = 0 → e ≠ 0 → ¬ P ∧ (if P then (d, Cm.z, e) else q) = q := fun {P _ q e} h he => by
  split at h
  ·exact absurd h he
  ·rename_i hp; exact ⟨hp, if_neg hp⟩
 by_cases k1 : c.kind = 1
 ·have ha : d.apply c = d.add c := by rw [Dr.apply, if_pos k1]
  rw [ha] at h hB
  rw [Dr.add] at h
  obtain ⟨hW, e1⟩ := h1n h (by decide)
  rw [e1] at h
  have hf : firstWrong c.ents = 0 := by
   by_cases hf : firstWrong c.ents = 0
   ·exact hf
   ·rw [if_pos hf] at h; exact absurd h hf
  rw [if_neg (fun e => e hf)] at h
  have hm : ¬ mostSegs - d.segs < segsOf c.ents := fun hm => by
   rw [if_pos hm] at h
   simp only at h
   split at h
   ·rename_i h2; exact h2 h
   ·exact absurd h (by decide)
  rw [if_neg hm] at h
  have he : (Nd.add d.top c.parent c.index (nodeOf c.ents)).2 = 0 := by
   by_cases he : (Nd.add d.top c.parent c.index (nodeOf c.ents)).2 = 0
   ·exact he
   ·rw [if_pos he] at h; exact absurd h he
  have hq : d.apply c = (⟨(Nd.add d.top c.parent c.index (nodeOf c.ents)).1, putAll d.at_ c.ents, d.segs + segsOf c.ents⟩, { Cm.z with kind := 2, id := (nodeOf c.ents).id }, 0) := by
   rw [ha, Dr.add, if_neg hW, if_neg (fun e => e hf), if_neg hm, if_neg (fun e => e he)]
  rw [← ha, hq] at hB
  refine key hq ?_
  clear key hq h h1n e1 ha
  obtain ⟨n, hn⟩ := (Whole_iff _).1 (Decidable.of_not_not hW)
  have hids := Tk_order hn
  simp only [List.map_nil, List.append_nil] at hids
  rw [nodeOf_eq hn] at hB he ⊢
  have hu := hA.undoAdd hB (Prod.ext rfl he : Nd.add d.top c.parent c.index n = (_, 0))
  have hco := Nd.count_add hA.od he
  simp only at hB hu ⊢
  rw [Dr.apply, if_neg (by show ¬ (2 : Int) = 1; decide), if_pos rfl, Dr.remove]
  simp only [hu]
  rw [if_neg (fun e => e rfl)]
  refine ⟨rfl, ?_, rfl⟩
  simp only
  funext i
  have hie := ents_ids (Dr.get ⟨(Nd.add d.top c.parent c.index n).1, putAll d.at_ c.ents, d.segs + segsOf c.ents⟩) n
  by_cases hi : i ∈ n.order
  ·rw [dropAll_mem (by rw [hie]; exact hi)]
   cases hat : d.at_ i with
   | none => rfl
   | some a =>
    have h1 := mem_count.1 ((hdom i).1 (by rw [hat]; rfl)).2
    have h2 := mem_count.1 hi
    have h3 := hco i
    have h4 := nodup_count hB.od i
    omega
  ·rw [dropAll_ne (by rw [hie]; exact hi), putAll_ne (by rw [hids]; exact hi)]
 by_cases k2 : c.kind = 2
 ·have ha : d.apply c = d.remove c := by rw [Dr.apply, if_neg k1, if_pos k2]
  have he : (Nd.remove d.top c.id).2.2.2.2 = 0 := by
   by_cases he : (Nd.remove d.top c.id).2.2.2.2 = 0
   ·exact he
   ·rw [ha, Dr.remove] at h
    simp only at h
    rw [if_pos he] at h; exact absurd h he
  have hq : d.apply c = (⟨(Nd.remove d.top c.id).1, dropAll d.at_ (ents d.get (Nd.remove d.top c.id).2.1), d.segs - segsOf (ents d.get (Nd.remove d.top c.id).2.1)⟩, { Cm.z with kind := 1, parent := (Nd.remove d.top c.id).2.2.1, index := (Nd.remove d.top c.id).2.2.2.1, ents := ents d.get (Nd.remove d.top c.id).2.1 }, 0) := by
   rw [ha, Dr.remove]
   simp only
   rw [if_neg (fun e => e he)]
  rw [hq] at hB
  refine key hq ?_
  clear key hq h h1n ha
  have hu := hA.undoRemove hF.good (t1 := (Nd.remove d.top c.id).1) (n := (Nd.remove d.top c.id).2.1) (q := (Nd.remove d.top c.id).2.2.1) (k := (Nd.remove d.top c.id).2.2.2.1) (i := c.id) (by rw [← he])
  obtain ⟨o1, o2, o3, o4, o5⟩ := hA.rem_nodup he
  have hcr := hA.count_rem he
  have hgr := hA.gcount_rem he
  have h0n : (0 : Int) ∉ (Nd.remove d.top c.id).2.1.order := o3 0 (mem0 hB)
  generalize (Nd.remove d.top c.id).1 = t1 at *
  generalize (Nd.remove d.top c.id).2.1 = n at *
  generalize (Nd.remove d.top c.id).2.2.1 = q at *
  generalize (Nd.remove d.top c.id).2.2.2.1 = k at *
  have htk := Tk_ents0 d.get n
  have hids := ents_ids d.get n
  have hgs := ents_gs d.get n
  have hat : ∀ x ∈ ents d.get n, x.atr = d.get x.id := fun x hx => ents_atr hx
  have hin : ∀ i ∈ n.order, i ≠ 0 ∧ i ∈ d.top.order := fun i hi => ⟨fun e => h0n (by rw [← e]; exact hi), by
   rw [mem_count]
   have h1 := hcr i
   have h2 := mem_count.1 hi
   omega⟩
  have hwr : firstWrong (ents d.get n) = 0 := firstWrong_none _ fun y hy => by
   have h1 : (y.id, y.grp) ∈ n.gs := by rw [← hgs]; exact List.mem_map_of_mem (f := fun x : Ent => (x.id, x.grp)) hy
   have h2 : (y.id, y.grp) ∈ d.top.gs := by
    have h3 := hgr (y.id, y.grp)
    have h4 := List.count_pos_iff.2 h1
    exact List.count_pos_iff.1 (by omega)
   have h5 := hF.inv.right _ h2 (hin _ (gs_id h1)).1
   rw [hat y hy]
   exact h5
  simp only at hu ⊢
  rw [Dr.apply, if_pos rfl, Dr.add]
  simp only
  have hmost := hF.inv.most
  rw [if_neg (fun e => e ((Whole_iff _).2 ⟨n, htk⟩)), if_neg (fun e => e hwr), if_neg (by omega), nodeOf_eq htk, hu, if_neg (fun e => e rfl)]
  refine ⟨rfl, ?_, rfl⟩
  simp only
  funext i
  by_cases hi : i ∈ n.order
  ·have hi2 : i ∈ (ents d.get n).map Ent.id := by rw [hids]; exact hi
   obtain ⟨x, hx, rfl⟩ := List.mem_map.1 hi2
   rw [putAll_at (by rw [hids]; exact o2) hx, hat x hx]
   obtain ⟨a, ha⟩ := Option.isSome_iff_exists.1 ((hdom x.id).2 (hin _ hi))
   rw [Dr.get, ha]; rfl
  ·rw [putAll_ne (by rw [hids]; exact hi), dropAll_ne (by rw [hids]; exact hi)]
 by_cases k3 : c.kind = 3
 ·have ha : d.apply c = d.move c := by rw [Dr.apply, if_neg k1, if_neg k2, if_pos k3]
  have he : (Nd.move d.top c.id c.parent c.index).2 = 0 := by
   by_cases he : (Nd.move d.top c.id c.parent c.index).2 = 0
   ·exact he
   ·rw [ha, Dr.move] at h
    simp only at h
    rw [if_pos he] at h; exact absurd h he
  obtain ⟨_, _, _, hw⟩ := hA.rem_small (Nd.move_rem he)
  have hq : d.apply c = ({ d with top := (Nd.move d.top c.id c.parent c.index).1 }, { Cm.z with kind := 3, id := c.id, parent := (Nd.remove d.top c.id).2.2.1, index := (Nd.remove d.top c.id).2.2.2.1 }, 0) := by
   rw [ha, Dr.move]
   simp only [hw]
   rw [if_neg (fun e => e he)]
   rfl
  rw [hq] at hB
  refine key hq ?_
  clear key hq h h1n ha
  have hu := hA.undoMove hF.good hB (Prod.ext rfl he : Nd.move d.top c.id c.parent c.index = (_, 0)) hw
  simp only at hu ⊢
  rw [Dr.apply, if_neg (by show ¬ (3 : Int) = 1; decide), if_neg (by show ¬ (3 : Int) = 2; decide), if_pos rfl, Dr.move]
  simp only [hu]
  rw [if_neg (fun e => e rfl)]
  exact ⟨rfl, rfl, rfl⟩
 by_cases k4 : c.kind = 4
 ·have ha : d.apply c = d.wrap c := by rw [Dr.apply, if_neg k1, if_neg k2, if_neg k3, if_pos k4]
  have hc : c.atr.check true = 0 := by
   by_cases hc : c.atr.check true = 0
   ·exact hc
   ·rw [ha, Dr.wrap, if_pos hc] at h; exact absurd h hc
  have he : (Nd.wrap d.top c.id c.parent c.index c.count).2 = 0 := by
   by_cases he : (Nd.wrap d.top c.id c.parent c.index c.count).2 = 0
   ·exact he
   ·rw [ha, Dr.wrap, if_neg (fun e => e hc)] at h
    simp only at h
    rw [if_pos he] at h; exact absurd h he
  have hq : d.apply c = (⟨(Nd.wrap d.top c.id c.parent c.index c.count).1, upAt d.at_ c.id c.atr, d.segs⟩, { Cm.z with kind := 5, id := c.id }, 0) := by
   rw [ha, Dr.wrap, if_neg (fun e => e hc)]
   simp only
   rw [if_neg (fun e => e he)]
  rw [hq] at hB
  refine key hq ?_
  clear key hq h h1n ha
  have hu := hA.undoWrap hB (Prod.ext rfl he : Nd.wrap d.top c.id c.parent c.index c.count = (_, 0))
  have hcn := Nd.count_wrap hA.od he c.id
  have hod := nodup_count hB.od c.id
  simp only at hu hod ⊢
  rw [Dr.apply, if_neg (by show ¬ (5 : Int) = 1; decide), if_neg (by show ¬ (5 : Int) = 2; decide), if_neg (by show ¬ (5 : Int) = 3; decide), if_neg (by show ¬ (5 : Int) = 4; decide), if_pos rfl, Dr.unwrap]
  simp only [hu]
  rw [if_neg (fun e => e rfl)]
  refine ⟨rfl, ?_, rfl⟩
  simp only
  funext i
  rw [downAt, upAt]
  by_cases hi : i = c.id
  ·rw [if_pos hi]
   cases hat : d.at_ i with
   | none => rfl
   | some a =>
    have h1 := mem_count.1 ((hdom i).1 (by rw [hat]; rfl)).2
    rw [if_pos rfl] at hcn
    rw [hi] at h1
    omega
  ·rw [if_neg hi, if_neg hi]
 by_cases k5 : c.kind = 5
 ·have ha : d.apply c = d.unwrap c := by rw [Dr.apply, if_neg k1, if_neg k2, if_neg k3, if_neg k4, if_pos k5]
  have he : (Nd.unwrap d.top c.id).2.2.2.2 = 0 := by
   by_cases he : (Nd.unwrap d.top c.id).2.2.2.2 = 0
   ·exact he
   ·rw [ha, Dr.unwrap] at h
    simp only at h
    rw [if_pos he] at h; exact absurd h he
  have hq : d.apply c = (⟨(Nd.unwrap d.top c.id).1, downAt d.at_ c.id, d.segs⟩, { Cm.z with kind := 4, id := c.id, parent := (Nd.unwrap d.top c.id).2.1, index := (Nd.unwrap d.top c.id).2.2.1, count := (Nd.unwrap d.top c.id).2.2.2.1, atr := d.get c.id }, 0) := by
   rw [ha, Dr.unwrap]
   simp only
   rw [if_neg (fun e => e he)]
  rw [hq] at hB
  refine key hq ?_
  clear key hq h h1n ha
  have hu := hA.undoUnwrap hF.good (t1 := (Nd.unwrap d.top c.id).1) (q := (Nd.unwrap d.top c.id).2.1) (k := (Nd.unwrap d.top c.id).2.2.1) (c := (Nd.unwrap d.top c.id).2.2.2.1) (i := c.id) (by rw [← he])
  have hcn := hA.count_unwrap he c.id
  have hgn := hA.gcount_unwrap he (c.id, true)
  rw [if_pos rfl] at hcn hgn
  have hin : c.id ∈ d.top.order := mem_count.2 (by omega)
  have hgin : (c.id, true) ∈ d.top.gs := List.count_pos_iff.1 (by omega)
  obtain ⟨_, _, _, _, hid0⟩ := hA.rem_nodup (Nd.unwrap_rem he)
  have hck : (d.get c.id).check true = 0 := hF.inv.right _ hgin hid0
  simp only at hu ⊢
  rw [Dr.apply, if_neg (by show ¬ (4 : Int) = 1; decide), if_neg (by show ¬ (4 : Int) = 2; decide), if_neg (by show ¬ (4 : Int) = 3; decide), if_pos rfl, Dr.wrap]
  simp only [hu]
  rw [if_neg (fun e => e hck), if_neg (fun e => e rfl)]
  refine ⟨rfl, ?_, rfl⟩
  simp only
  funext i
  rw [upAt, downAt]
  by_cases hi : i = c.id
  ·rw [if_pos hi]
   obtain ⟨a, ha⟩ := Option.isSome_iff_exists.1 ((hdom c.id).2 ⟨hid0, hin⟩)
   rw [hi, Dr.get, ha]; rfl
  ·rw [if_neg hi, if_neg hi]
 by_cases k6 : 6 ≤ c.kind ∧ c.kind ≤ 12
 case neg =>
  rw [Dr.apply, if_neg k1, if_neg k2, if_neg k3, if_neg k4, if_neg k5, if_neg k6] at h
  exact absurd h (by show ¬ (33 : Int) = 0; decide)
 have ha : d.apply c = d.set c := by rw [Dr.apply, if_neg k1, if_neg k2, if_neg k3, if_neg k4, if_neg k5, if_pos k6]
 rw [ha, Dr.set] at h
 obtain ⟨hid0, e1⟩ := h1n h (by decide)
 rw [e1] at h
 cases hat : d.at_ c.id with
 | none => rw [hat] at h; exact absurd h (by show ¬ (31 : Int) = 0; decide)
 | some a =>
  rw [hat] at h
  simp only at h
  obtain ⟨hgr, e2⟩ := h1n h (by decide)
  rw [e2] at h
  have hc : (change a c).2.2 = 0 := by
   by_cases hc : (change a c).2.2 = 0
   ·exact hc
   ·rw [if_pos hc] at h; exact absurd h hc
  rw [if_neg (fun e => e hc)] at h
  obtain ⟨hm, _⟩ := h1n h (by decide)
  have hq : d.apply c = (⟨d.top, upAt d.at_ c.id (change a c).1, d.segs + (change a c).1.path.length - a.path.length⟩, { (change a c).2.1 with id := c.id }, 0) := by
   rw [ha, Dr.set, if_neg hid0, hat]
   simp only
   rw [if_neg hgr, if_neg (fun e => e hc), if_neg hm]
  refine key hq ?_
  clear key hq h h1n ha e1 e2
  have hin := ((hdom c.id).1 (by rw [hat]; rfl)).2
  have hgin : ∃ g, (c.id, g) ∈ d.top.gs := by
   rw [← Nd.order_gs] at hin
   obtain ⟨p, hp, e⟩ := List.mem_map.1 hin
   exact ⟨p.2, by rw [← e]; exact hp⟩
  obtain ⟨g, hgin⟩ := hgin
  have hck : (d.get c.id).check g = 0 := hF.inv.right _ hgin hid0
  rw [Dr.get, hat] at hck
  obtain ⟨b1, b2, b3, b4, b5⟩ := change_back (c := c) hck k6.1 k6.2 hc c.id
  have hmost := hF.inv.most
  simp only [Option.getD_some] at b1 b2 b3 b4 b5
  generalize hbk : ({ (change a c).2.1 with id := c.id } : Cm) = bk at *
  have hbi : bk.id = c.id := by rw [← hbk]
  have hbkk : bk.kind = (change a c).2.1.kind := by rw [← hbk]
  rw [← hbkk] at b3 b4 b5
  simp only
  rw [Dr.apply, if_neg (by omega), if_neg (by omega), if_neg (by omega), if_neg (by omega), if_neg (by omega), if_pos ⟨b3, b4⟩, Dr.set, hbi, if_neg hid0]
  simp only [upAt, if_pos]
  rw [if_neg (fun hh => hgr ⟨b5 hh.1, hh.2⟩), if_neg (fun e => e b2), b1, if_neg (by omega)]
  refine ⟨rfl, ?_, rfl⟩
  simp only
  funext i
  rw [upAt]
  by_cases hi : i = c.id
  ·rw [if_pos hi, hi, hat]
  ·rw [if_neg hi, upAt, if_neg hi]
theorem apply_back (hA : Abs A d.top) (hF : Fit d) (hdom : ∀ i, (d.at_ i).isSome = true ↔ i ≠ 0 ∧ i ∈ d.top.order) (hB : Abs B (d.apply c).1.top) (hdom' : ∀ i, ((d.apply c).1.at_ i).isSome = true ↔ i ≠ 0 ∧ i ∈ (d.apply c).1.top.order) (h : (d.apply c).2.2 = 0) :
  ((d.apply c).1.apply (d.apply c).2.1).1 = d ∧ ((d.apply c).1.apply (d.apply c).2.1).2.2 = 0 := by
 obtain ⟨h1, h2, h3⟩ := back_core hA hF hdom hB h
 have hF' := hF.apply hA hdom hB
 have hi := inv_apply (B := A) hF'.inv hB hdom' (c := (d.apply c).2.1) (by rw [h1]; exact hA)
 exact ⟨Dr.ext_of h1 h2 hF.inv hi, h3⟩
end
end Go.Dc

namespace Go.Sl
open Go.Ls
section
variable {Γ : Cx} {ρ : Nat → Value} {I : Mem} {L : List HP} {Q : Post}
end
end Go.Sl
namespace Go.Dc
open Go.Sl Go.Ls Go.Tr
section
variable {A B : Ar} {d : Dr} {c : Cm}
theorem back_fits (hA : Abs A d.top) (hF : Fit d) (hF' : Fit (d.apply c).1) : (d.apply c).2.1.ents.length ≤ 100000 ∧ (d.apply c).1.segs + segsOf (d.apply c).2.1.ents ≤ 1048576 := by
 have hm : d.segs ≤ 1048576 := hF.inv.most
 have hm' : (d.apply c).1.segs ≤ 1048576 := hF'.inv.most
 have nil : ∀ {q : Dr × Cm × Int}, q.1.segs ≤ 1048576 → q.2.1.ents = [] → q.2.1.ents.length ≤ 100000 ∧ q.1.segs + segsOf q.2.1.ents ≤ 1048576 := by
  intro q h1 h2
  rw [h2]
  refine ⟨Nat.zero_le _, ?_⟩
  have : segsOf [] = 0 := rfl
  omega
 by_cases k2 : c.kind = 2
 ·have ha : d.apply c = d.remove c := by rw [Dr.apply, if_neg (by omega), if_pos k2]
  rw [ha, Dr.remove] at hm' ⊢
  simp only at hm' ⊢
  split
  ·refine ⟨Nat.zero_le _, ?_⟩
   show d.segs + 0 ≤ _
   omega
  ·have h1 := ents_len d.get (Nd.remove d.top c.id).2.1
   have h2 := (hA.remSize c.id).2
   refine ⟨by simp only; omega, ?_⟩
   simp only
   omega
 ·refine nil hm' ?_
  rw [Dr.apply]
  by_cases k1 : c.kind = 1
  ·rw [if_pos k1, Dr.add]
   repeat' split
   all_goals rfl
  rw [if_neg k1, if_neg k2]
  by_cases k3 : c.kind = 3
  ·rw [if_pos k3, Dr.move]
   simp only
   split <;> rfl
  rw [if_neg k3]
  by_cases k4 : c.kind = 4
  ·rw [if_pos k4, Dr.wrap]
   split
   ·rfl
   ·simp only
    split <;> rfl
  rw [if_neg k4]
  by_cases k5 : c.kind = 5
  ·rw [if_pos k5, Dr.unwrap]
   simp only
   split <;> rfl
  rw [if_neg k5]
  by_cases k6 : 6 ≤ c.kind ∧ c.kind ≤ 12
  ·rw [if_pos k6]
   have hch : ∀ a, (change a c).2.1.ents = [] := fun a => by
    rw [change]
    repeat' split
    all_goals rfl
   rw [Dr.set]
   repeat' split
   all_goals first | rfl | exact hch _
  ·rw [if_neg k6]
end
end Go.Dc
namespace Go.Proofs.YtggcpoleklcmkaaGreatDoor
open Go.Sl Go.Ls Go.Tr Go.Dc
attribute [local irreducible] WC WL WX WK WA WAK Val Ctr RunRes ResIs Rd At sl box pt Exit.then Exit.inBlock bodyPost Code.wp wpList
instance : ClK Tryz.prog 120 := ⟨_, rfl, by kernel_rfl, by kernel_rfl, by kernel_rfl, by kernel_rfl⟩
theorem mClone (b n : Nat) (f : Int → Option Value) (I : Mem) : Ctr Tryz.prog 76 [.map (some b)] I [mp b f n] (fun v I' L' => I' = I ∧ ∃ b', v = .map (some b') ∧ L' = [mp b f n, mp b' f n]) := by
 refine Ctr.intro Tryz.func76 rfl rfl rfl fun E F => ?_
 refine jS (WL.val Val.assign rfl ?_)
 refine jM (jB (jS (WL.val Val.move rfl ?_)))
 refine jm (Val.mapNil rfl) ?_
 refine jM (jE (jV (jK (WL.val Val.move rfl ?_))))
 refine jm (Val.mapIface rfl) ?_
 refine WL.cloneMap 1 rfl rfl rfl rfl fun b' => ?_
 refine jW ?_
 refine jm (Val.mapAssert rfl) ?_
 refine WL.val Val.assign rfl ?_
 refine jM (jR ?_)
 exact jP [0, 0] (jr1 rfl (ResIs.tmp rfl)) ⟨rfl, b', rfl, rfl⟩
theorem dCopy (D : Dm) (d : Dr) (I : Mem) (hD : DAbs I D d) : Ctr Tryz.prog 26 [ptr D.b] I D.hp (fun v I' L' => I' = I ∧ ∃ D2 : Dm, v = ptr D2.b ∧ L' = D.hp ++ D2.hp ∧ DAbs I D2 d) := by
 refine Ctr.intro Tryz.func26 rfl rfl rfl fun E F => ?_
 refine jS (ji rfl (jM (jB (j8 999 [1] rfl (jT 0 rfl (Val.moveP rfl) (jT 1 rfl (jr rfl) (jT 2 rfl (jn rfl) (jT 3 rfl (jp 0 rfl rfl rfl) (jT 5 rfl (Val.moveP rfl) (jT 6 rfl (jr rfl) (jT 7 rfl (jn rfl) (jT 8 rfl (jp 0 rfl rfl rfl) (jT 10 rfl (Val.moveP rfl) (jT 11 rfl (jr rfl) (jT 12 rfl (jn rfl) (jT 13 rfl (jp 0 rfl rfl rfl) (j5 4 rfl (WL.callP [3, 3, 3, 3, 3] rfl rfl (tCopy D.A d.top hD.abs _) rfl ?_))))))))))))))))))
 rintro _ I1 _ _ ⟨rfl, C, hC, rfl, rfl⟩
 change WL _ _ _ _ _ (_ ++ [_, _, _, _, _, _, _, _, _, _]) _
 refine jW ?_
 refine jC (j7 [1] rfl (j5 9 rfl (WL.callP [2] rfl rfl (mClone D.mb D.cnt D.f _) rfl ?_)))
 rintro _ I2 _ _ ⟨rfl, mb2, rfl, rfl⟩
 refine jW ?_
 refine jC (j7 [1] rfl (j5 14 rfl (jm (Val.build (cs := [ptr C.b, .map (some mb2), vi D.segs]) rfl) ?_)))
 refine jC (j7 [1] rfl (j5 15 rfl (WL.boxA rfl rfl (fun _ => ?_))))
 rename_i g
 refine jW ?_
 refine jC (j7 [1] rfl (jT 16 rfl (Val.assignP rfl) (j6 (jA (jR ?_)))))
 exact jP [0, 10, 0, 0, 0, 0, 0, 6, 5, 0, 0, 0, 0, 0] (jr1 rfl (ResIs.tmpP rfl)) ⟨rfl, { b := g, A := C, mb := mb2, f := D.f, cnt := D.cnt, segs := D.segs }, rfl, rfl, ⟨hC.abs hD.abs, hD.rep, hD.segs, hD.dom, hD.lim⟩⟩
end Go.Proofs.YtggcpoleklcmkaaGreatDoor

namespace Go.Hi
open Go.Sl Go.Ls Go.Tr Go.Dc
def GoodD (d : Dr) : Prop := (∃ A, Abs A d.top) ∧ Fit d ∧ ∀ i, (d.at_ i).isSome = true ↔ i ≠ 0 ∧ i ∈ d.top.order
theorem GoodD.back {d : Dr} {c : Cm} (h : GoodD d) (h' : GoodD (d.apply c).1) (he : (d.apply c).2.2 = 0) : ((d.apply c).1.apply (d.apply c).2.1).1 = d ∧ ((d.apply c).1.apply (d.apply c).2.1).2.2 = 0 := by
 obtain ⟨⟨A, hA⟩, hF, hd⟩ := h
 obtain ⟨⟨B, hB⟩, _, hd'⟩ := h'
 exact apply_back hA hF hd hB hd' he
theorem GoodD.new : GoodD Dr.new := ⟨⟨_, Abs.fresh 0 0 0⟩, Fit.new, fun i => ⟨fun h => (by cases h), fun h => by
 have h2 : i ∈ [0] := h.2
 exact absurd (List.mem_singleton.1 h2) h.1⟩⟩
inductive Run : Dr → List Cm → Dr → List Cm → Prop where
 | nil {d : Dr} (h : GoodD d) : Run d [] d []
 | cons {d d' : Dr} {c : Cm} {s bs : List Cm} (h : GoodD d) (he : (d.apply c).2.2 = 0) (hr : Run (d.apply c).1 s d' bs) : Run d (c :: s) d' (bs ++ [(d.apply c).2.1])
theorem Run.good {d d' : Dr} {s bs : List Cm} (h : Run d s d' bs) : GoodD d ∧ GoodD d' := by
 induction h with
 | nil h => exact ⟨h, h⟩
 | cons h _ _ ih => exact ⟨h, ih.2⟩
theorem Run.app {d d1 d2 : Dr} {s t bs ct : List Cm} (h : Run d s d1 bs) (k : Run d1 t d2 ct) : Run d (s ++ t) d2 (ct ++ bs) := by
 induction h with
 | nil _ => rw [List.append_nil]; exact k
 | cons h he _ ih =>
  rw [List.cons_append, ← List.append_assoc]
  exact .cons h he (ih k)
theorem Run.snoc {d d1 : Dr} {s bs : List Cm} {c : Cm} (h : Run d s d1 bs) (he : (d1.apply c).2.2 = 0) (hg : GoodD (d1.apply c).1) : Run d (s ++ [c]) (d1.apply c).1 ((d1.apply c).2.1 :: bs) := by
 have := h.app (.cons h.good.2 he (.nil hg))
 exact this
theorem Run.uniq {d d1 d2 : Dr} {s bs ct : List Cm} (h : Run d s d1 bs) (k : Run d s d2 ct) : d1 = d2 ∧ bs = ct := by
 induction h generalizing d2 ct with
 | nil _ => cases k with | nil _ => exact ⟨rfl, rfl⟩
 | cons h he _ ih =>
  cases k with
  | cons h' he' hr' =>
   obtain ⟨rfl, rfl⟩ := ih hr'
   exact ⟨rfl, rfl⟩
theorem Run.back {d d1 : Dr} {s bs : List Cm} (h : Run d s d1 bs) : ∃ t, Run d1 bs d t := by
 induction h with
 | nil h => exact ⟨[], .nil h⟩
 | @cons d d' c s bs h he hr ih =>
  obtain ⟨t, ht⟩ := ih
  obtain ⟨b1, b2⟩ := h.back ht.good.2 he
  have h2 : Run (d.apply c).1 [(d.apply c).2.1] ((d.apply c).1.apply (d.apply c).2.1).1 _ := .cons ht.good.2 b2 (.nil (by rw [b1]; exact h))
  rw [b1] at h2
  exact ⟨_, ht.app h2⟩
def errS : Dr → List Cm → Int
 | _, [] => 0
 | d, c :: s => if (d.apply c).2.2 ≠ 0 then (d.apply c).2.2 else errS (d.apply c).1 s
theorem Run.err {d d1 : Dr} {s bs : List Cm} (h : Run d s d1 bs) : errS d s = 0 := by
 induction h with
 | nil _ => rfl
 | cons h he _ ih => rw [errS, if_neg (fun e => e he), ih]
theorem Run.err_app {d d1 : Dr} {s bs : List Cm} {c : Cm} (h : Run d s d1 bs) (r : List Cm) (he : (d1.apply c).2.2 ≠ 0) : errS d (s ++ c :: r) = (d1.apply c).2.2 := by
 induction h with
 | nil _ => rw [List.nil_append, errS, if_pos he]
 | cons h h0 _ ih => rw [List.cons_append, errS, if_neg (fun e => e h0), ih he]
def Fits (c : Cm) (d : Dr) : Prop := c.ents.length ≤ 100000 ∧ d.segs + segsOf c.ents ≤ 1048576
def FitsS : Dr → List Cm → Prop
 | _, [] => True
 | d, c :: s => Fits c d ∧ ((d.apply c).2.2 = 0 → FitsS (d.apply c).1 s)
theorem FitsS.snoc {d d1 : Dr} {s t : List Cm} {b : Cm} (r : Run d s d1 t) : FitsS d s → Fits b d1 → FitsS d (s ++ [b]) := by
 induction r with
 | nil _ => exact fun _ hb => ⟨hb, fun _ => trivial⟩
 | cons h he _ ih => exact fun h1 hb => ⟨h1.1, fun k => ih (h1.2 k) hb⟩
theorem Run.fits {d d1 : Dr} {s bs : List Cm} (h : Run d s d1 bs) : FitsS d1 bs := by
 induction h with
 | nil _ => trivial
 | @cons d d' c s bs h he hr ih =>
  obtain ⟨t, ht⟩ := hr.back
  obtain ⟨⟨A, hA⟩, hF, _⟩ := h
  exact ih.snoc ht (back_fits hA hF hr.good.1.2.1)
inductive Chain : Dr → List (List Cm) → List Dr → Prop where
 | nil {d : Dr} : Chain d [] []
 | snoc {d w : Dr} {us : List (List Cm)} {ws : List Dr} {s s0 : List Cm} (hr : Run w s0 d s) (h : Chain w us ws) : Chain d (us ++ [s]) (ws ++ [w])
theorem Chain.len {d : Dr} {us : List (List Cm)} {ws : List Dr} (h : Chain d us ws) : us.length = ws.length := by
 induction h with
 | nil => rfl
 | snoc _ _ ih => rw [List.length_append, List.length_append, ih]; rfl
theorem Chain.top {d : Dr} {us : List (List Cm)} {ws : List Dr} {s : List Cm} (h : Chain d (us ++ [s]) ws) : ∃ w vs s0 t, ws = vs ++ [w] ∧ Run w s0 d s ∧ Run d s w t ∧ Chain w us vs := by
 generalize hq : us ++ [s] = q at h
 cases h with
 | nil => simp at hq
 | snoc hr h =>
  obtain ⟨e1, e2⟩ := List.append_inj' hq rfl
  cases e2; subst e1
  obtain ⟨t, ht⟩ := hr.back
  exact ⟨_, _, _, t, rfl, hr, ht, h⟩
theorem Chain.drop1 {d : Dr} {us : List (List Cm)} {ws : List Dr} (h : Chain d us ws) : Chain d (us.drop 1) (ws.drop 1) := by
 induction h with
 | nil => exact .nil
 | @snoc d w us ws s t hr h ih =>
  have hl := h.len
  cases us with
  | nil =>
   have : ws = [] := List.eq_nil_of_length_eq_zero (by simpa using hl.symm)
   subst this
   exact .nil
  | cons u us =>
   cases ws with
   | nil => simp at hl
   | cons x ws => exact .snoc hr ih
theorem Chain.drop {d : Dr} {us : List (List Cm)} {ws : List Dr} : ∀ n : Nat, Chain d us ws → Chain d (us.drop n) (ws.drop n)
 | 0, h => h
 | n + 1, h => by
  have := (Chain.drop n h).drop1
  rwa [List.drop_drop, List.drop_drop] at this
end Go.Hi

namespace Go.Sl
open Go.Ls
section
variable {Γ : Cx} {ops : Array Oper} {rest : List Oper} {ρ : Nat → Value} {I : Mem} {L : List HP} {Q : Post} {ty : TypeId} {ps : String} {af : Array Edge}
theorem WL.storeRow {t e sz n cap g : Nat} {ag : Bool} {x y : Operand} {css : List (List Value)} {cs : List Value} (k i : Nat) [hk : TyK Γ.P t ag sz] (hL : L[k]? = some (sl e sz (.slice (some ⟨g, 0, none⟩) n cap) n css.flatten))
  (hx : ev ρ x = .pointer (some ⟨g, 0 + (i : Int).toNat * sz, none⟩)) (hy : ev ρ y = .agg cs.toArray) (hz : ∀ c ∈ css, c.length = sz) (hcs : cs.length = sz) (h1 : cs.all Value.oneCell' = true) (hi : i < css.length) (hn : css.length = n) (h0 : 0 < sz)
  (next : WL Γ ops rest ρ I (L.set k (sl e sz (.slice (some ⟨g, 0, none⟩) n cap) n (css.set i cs).flatten)) Q) : WL Γ ops ({ dst := none, op := .store t x y, type := ty, pos := ps, after := af, guard := none } :: rest) ρ I L Q := by
 have hle : i * sz + sz ≤ n * sz := by rw [← Nat.succ_mul, ← hn]; exact Nat.mul_le_mul_right _ hi
 have e1 : (ev ρ y).cells.toList = cs := by rw [hy]; rfl
 refine WL.storeSl k hx hL (by rw [e1]; exact hcs) (by rw [e1]; exact h1) (by rw [e1, Nat.zero_add, Int.toNat_natCast, hcs]; exact hle) ?_
 rw [e1, Nat.zero_add, Int.toNat_natCast]
 have e2 := flat_splice h0 css hz i 0 cs hi (by omega)
 rw [Nat.add_zero] at e2
 rw [e2]
 have e3 : splice css[i] 0 cs = cs := by
  unfold splice
  rw [List.take_zero, List.nil_append, List.drop_eq_nil_of_le (by rw [hz _ (List.getElem_mem hi)]; omega), List.append_nil]
 rw [e3]
 exact next
end
theorem flat_row {sz : Nat} (h0 : 0 < sz) {ds : List (List Value)} (hz : ∀ c ∈ ds, c.length = sz) (k : Nat) (hk : k < ds.length) : ∀ q u, (ds[k])[q]? = some u → ds.flatten[0 + (k : Int).toNat * sz + q]? = some u := by
 intro q u h
 have hq := (List.getElem?_eq_some_iff.1 h).1
 rw [hz _ (List.getElem_mem hk)] at hq
 rw [Nat.zero_add, Int.toNat_natCast, flat_at h0 ds hz k q hq, List.getElem?_eq_getElem hk]
 exact h
end Go.Sl
namespace Go.Hi
open Go.Sl Go.Ls Go.Tr Go.Dc
structure RevTo (css ds : List (List Value)) (i : Nat) : Prop where
 len : ds.length = css.length
 at_ : ∀ q, q < css.length → ds[q]? = if q < i ∨ css.length - 1 - i < q then css[css.length - 1 - q]? else css[q]?
theorem RevTo.mem {css ds : List (List Value)} {i : Nat} (h : RevTo css ds i) : ∀ c ∈ ds, c ∈ css := fun c hc => by
 obtain ⟨q, hq, rfl⟩ := List.getElem_of_mem hc
 have hl := h.len
 have h1 := h.at_ q (by omega)
 rw [List.getElem?_eq_getElem hq] at h1
 split at h1
 ·exact List.mem_of_getElem? h1.symm
 ·exact List.mem_of_getElem? h1.symm
theorem RevTo.step {css ds : List (List Value)} {i j : Nat} (h : RevTo css ds i) (hj : j = css.length - 1 - i) (hij : i < j) (hi : i < ds.length) (hjl : j < ds.length) : RevTo css ((ds.set i ds[j]).set j ds[i]) (i + 1) := by
 have hl := h.len
 refine ⟨by rw [List.length_set, List.length_set, hl], fun q hq => ?_⟩
 have hi' := h.at_ i (by omega)
 have hj' := h.at_ j (by omega)
 rw [if_neg (by omega), List.getElem?_eq_getElem hi] at hi'
 rw [if_neg (by omega), List.getElem?_eq_getElem hjl] at hj'
 rw [List.getElem?_set, List.length_set, List.getElem?_set]
 by_cases h1 : j = q
 ·subst h1
  rw [if_pos rfl, if_pos hjl, if_pos (.inr (by omega)), hi']
  congr 1; omega
 rw [if_neg h1]
 by_cases h2 : i = q
 ·subst h2
  rw [if_pos rfl, if_pos hi, if_pos (.inl (by omega)), hj']
  congr 1
 rw [if_neg h2, h.at_ q hq]
 by_cases h3 : q < i ∨ css.length - 1 - i < q
 ·rw [if_pos h3, if_pos (by omega)]
 ·rw [if_neg h3, if_neg (by omega)]
theorem RevTo.done {css ds : List (List Value)} {i j : Nat} (h : RevTo css ds i) (hij : css.length ≤ i + i + 1) : ds = css.reverse := by
 have hl := h.len
 apply List.ext_getElem?
 intro q
 by_cases hq : q < css.length
 ·rw [List.getElem?_reverse hq, h.at_ q hq]
  by_cases h3 : q < i ∨ css.length - 1 - i < q
  ·rw [if_pos h3]
  ·rw [if_neg h3]; congr 1; omega
 ·rw [List.getElem?_eq_none (by omega), List.getElem?_eq_none (by rw [List.length_reverse]; omega)]
theorem All2.rev {α β : Type} {R : α → β → Prop} {l : List α} {r : List β} (h : All2 R l r) : All2 R l.reverse r.reverse := by
 induction l generalizing r with
 | nil => cases r with
  | nil => exact h
  | cons _ _ => exact h.elim
 | cons a l ih => cases r with
  | nil => exact h.elim
  | cons b r =>
   rw [List.reverse_cons, List.reverse_cons]
   exact (ih h.2).snoc h.1
def Step.rep : Rep (List Cm) := fun I s cs => ∃ v, cs = [v] ∧ LsAt Cm.rep I s v
instance : RepMono Step.rep := ⟨fun h hI => by
 obtain ⟨v, h1, h2⟩ := h
 exact ⟨v, h1, h2.mono hI⟩⟩
def keep {α : Type} (n : Nat) (l : List α) : List α := l.drop (l.length - n)
theorem one_flat {I : Mem} : ∀ {l : List (List Cm)} {css : List (List Value)}, All2 (Step.rep I) l css → css.flatten.length = l.length ∧ css.flatten.all Value.oneCell' = true ∧ ∀ n, (css.drop n).flatten = css.flatten.drop n
 | [], [], _ => ⟨rfl, rfl, fun n => by simp⟩
 | a :: l, c :: css, h => by
  obtain ⟨⟨v, rfl, hv⟩, h2⟩ := h
  obtain ⟨a, k, rfl⟩ := hv.sl
  obtain ⟨e1, e2, e3⟩ := one_flat h2
  refine ⟨by simp [e1], by rw [List.flatten_cons, List.all_append, e2]; rfl, fun n => ?_⟩
  cases n with
  | zero => rfl
  | succ n => rw [List.drop_succ_cons, e3 n]; rfl
theorem All2.drop {α β : Type} {R : α → β → Prop} : ∀ (n : Nat) {l : List α} {r : List β}, All2 R l r → All2 R (l.drop n) (r.drop n)
 | 0, _, _, h => h
 | n + 1, [], [], h => h
 | n + 1, _ :: _, _ :: _, h => All2.drop n h.2
end Go.Hi
namespace Go.Proofs.YtggcpoleklcmkaaGreatDoor
open Go.Sl Go.Ls Go.Tr Go.Dc Go.Hi
theorem sRev (css : List (List Value)) (m : Nat) (hm : css.length = m) (hz : ∀ c ∈ css, c.length = 51) (h1 : ∀ c ∈ css, c.all Value.oneCell' = true) (hn : m ≤ 1000000) (v : Value) (I : Mem) :
  Ctr Tryz.prog 122 [v] I [sl 59 51 v m css.flatten] (fun _ I' L' => I' = I ∧ L' = [sl 59 51 v m css.reverse.flatten]) := by
 subst hm
 refine Ctr.intro Tryz.func122 rfl rfl rfl fun E F => ?_
 refine WC.slOpen 1 rfl fun sa sc hs hsg hsc => ?_
 subst hs
 refine jS (jc rfl (jm (jo rfl) (jm (Val.sub rfl rfl (wrap_i64 (by omega) (by omega))) ?_)))
 refine jf rfl (jf rfl (jM (WC.block ?_)))
 refine WC.loop (fun n ρ' I' L' => ∃ (i : Nat) (ds : List (List Value)), n = css.length - i ∧ i ≤ css.length ∧ I' = I ∧ ρ' 0 = .slice sa css.length sc ∧ ρ' 2 = vi i ∧ ρ' 3 = vi ((css.length : Int) - 1 - i) ∧ L' = [F, sl 59 51 (.slice sa css.length sc) css.length ds.flatten] ∧ RevTo css ds i)
  css.length ⟨0, css, rfl, Nat.zero_le _, rfl, rfl, rfl, by show vi _ = vi _; congr 1; omega, rfl, rfl, fun q hq => by rw [if_neg (by omega)]⟩ ?_
 rintro n ρ' I2 L' ⟨i, ds, rfl, hi, rfl, r0, r2, r3, rfl, hR⟩
 refine ju3 r3 r2 r0 ?_
 have hl := hR.len
 by_cases hij : css.length ≤ i + i + 1
 ·skip
  refine jB (jS (ja rfl (ja rfl (jx rfl rfl (jM (jE (WC.exit (WX.thenExit (WX.thenExit (WX.inHit ?_))))))))))
  apply WX.doneN (ks := [0])
  case hres => exact RunRes.r0 rfl
  case hp => rfl
  case hI => first | exact Mem.le.refl _ | assumption
  exact ⟨rfl, by rw [hR.done (j := 0) hij]⟩
 obtain ⟨g, rfl⟩ := hsg (by omega)
 have hdz : ∀ c ∈ ds, c.length = 51 := fun c hc => hz c (hR.mem c hc)
 have hd1 : ∀ c ∈ ds, c.all Value.oneCell' = true := fun c hc => h1 c (hR.mem c hc)
 obtain ⟨j, hj⟩ : ∃ j, j = css.length - 1 - i := ⟨_, rfl⟩
 have hji : ((css.length : Int) - 1 - i) = (j : Int) := by omega
 rw [hji]
 have hil : i < ds.length := by omega
 have hjl : j < ds.length := by omega
 refine jB (jS (ja rfl (ja rfl (jy rfl rfl (jM (jF (jV (jA (jB (WC.block ?_))))))))))
 have hsz : ∀ c ∈ ds.set i ds[j], c.length = 51 := fun c hc => by
  rcases List.mem_or_eq_of_mem_set hc with hc | rfl
  ·exact hdz c hc
  ·exact hdz _ (List.getElem_mem hjl)
 refine j8 999 [] rfl (jT 0 rfl (Val.moveS rfl) (jT 1 rfl (Val.moveI rfl) (jT 2 rfl (Val.moveS rfl) (jT 3 rfl (Val.moveI rfl) (jT 4 rfl (Val.moveS rfl) (jT 5 rfl (Val.moveI rfl) (jT 6 rfl (jZ rfl rfl) (jT 8 rfl (Val.moveS rfl) (jT 9 rfl (Val.moveI rfl) (jT 10 rfl (jZ rfl rfl) ?_))))))))))
 refine jee 7 11 rfl rfl ?_ ?_
 ·refine WL.val (Val.loadA rfl (Rd.slN 1 rfl _ _ (flat_row (by decide) hdz j hjl)) (hdz _ (List.getElem_mem hjl))) rfl ?_
  refine jC (j7 [] rfl (j5 11 rfl (jm (Val.loadA rfl (Rd.slN 1 rfl _ _ (flat_row (by decide) hdz i hil)) (hdz _ (List.getElem_mem hil))) ?_)))
  refine jC (j7 [] rfl (jT 12 rfl (jZ rfl rfl) (j5 13 rfl (WL.storeRow (css := ds) 1 i rfl rfl rfl hdz (hdz _ (List.getElem_mem hjl)) (hd1 _ (List.getElem_mem hjl)) hil hl (by decide) ?_))))
  refine WL.nSet ?_
  refine jC (j7 [] rfl (jT 14 rfl (jZ rfl rfl) (j5 15 rfl (WL.storeRow (css := ds.set i ds[j]) 1 j rfl rfl rfl hsz (hdz _ (List.getElem_mem hil)) (hd1 _ (List.getElem_mem hil)) (by rw [List.length_set]; exact hjl) (by rw [List.length_set]; exact hl) (by decide) ?_))))
  refine WL.nSet ?_
  refine jC (j7 [] rfl (j6 (WX.inNormal (jA (jD (ja rfl (jX rfl rfl (ja rfl (jm (Val.sub rfl rfl (wrap_i64 (by omega) (by omega))) ?_)))))))))
  exact jf rfl (jf rfl (jC (WX.thenK (WK.round (css.length - (i + 1)) (by omega) ⟨i + 1, _, rfl, by omega, rfl, rfl, rfl, by show vi _ = vi _; congr 1; omega, rfl, hR.step hj (by omega) hil hjl⟩))))
 ·refine WL.val (Val.loadA rfl (Rd.slN 1 rfl _ _ (flat_row (by decide) hdz i hil)) (hdz _ (List.getElem_mem hil))) rfl ?_
  refine jC (j7 [] rfl (j5 7 rfl (jm (Val.loadA rfl (Rd.slN 1 rfl _ _ (flat_row (by decide) hdz j hjl)) (hdz _ (List.getElem_mem hjl))) ?_)))
  refine jC (j7 [] rfl (jT 12 rfl (jZ rfl rfl) (j5 13 rfl (WL.storeRow (css := ds) 1 i rfl rfl rfl hdz (hdz _ (List.getElem_mem hjl)) (hd1 _ (List.getElem_mem hjl)) hil hl (by decide) ?_))))
  refine WL.nSet ?_
  refine jC (j7 [] rfl (jT 14 rfl (jZ rfl rfl) (j5 15 rfl (WL.storeRow (css := ds.set i ds[j]) 1 j rfl rfl rfl hsz (hdz _ (List.getElem_mem hil)) (hd1 _ (List.getElem_mem hil)) (by rw [List.length_set]; exact hjl) (by rw [List.length_set]; exact hl) (by decide) ?_))))
  refine WL.nSet ?_
  refine jC (j7 [] rfl (j6 (WX.inNormal (jA (jD (ja rfl (jX rfl rfl (ja rfl (jm (Val.sub rfl rfl (wrap_i64 (by omega) (by omega))) ?_)))))))))
  exact jf rfl (jf rfl (jC (WX.thenK (WK.round (css.length - (i + 1)) (by omega) ⟨i + 1, _, rfl, by omega, rfl, rfl, rfl, by show vi _ = vi _; congr 1; omega, rfl, hR.step hj (by omega) hil hjl⟩))))
theorem sDel (xs : List Value) (n j : Nat) (hn : xs.length = n) (s : Value) (I : Mem) (hall : xs.all Value.oneCell' = true) (h0 : 0 < j) (hj : j ≤ n) (hl : n ≤ 1000000) :
  Ctr Tryz.prog 123 [s, vi 0, vi j] I [sl 154 1 s n xs]
   (fun r I' L' => I' = I ∧ L' = [sl 154 1 r (n - j) (xs.drop j)]) := by
 subst hn
 refine Ctr.intro Tryz.func123 rfl rfl rfl fun E F => ?_
 refine WC.slOpen 1 rfl fun sa sc hs hsg hsc => ?_
 subst hs
 obtain ⟨sg, rfl⟩ := hsg (by omega)
 refine jS (jh rfl (jN (jc rfl (ja rfl (ja rfl (jc rfl (jm (jo rfl) (jm (Val.slice3L (l := 0) (h := j) (m := xs.length) rfl rfl rfl rfl (by omega) (by omega) (by omega)) ?_))))))))
 refine WL.slOut 1 rfl fun cs k1 k2 k3 k4 => ?_
 refine WL.nSet ?_
 have hcs : ∀ q u, xs[q]? = some u → cs[q]? = some u := fun q u h => by
  rw [← k2, List.getElem?_take] at h
  split at h
  ·exact h
  ·cases h
 have hml : (xs.drop j).length = xs.length - j := List.length_drop
 refine jM (jB (jS (ja rfl (ja rfl (jv rfl rfl (jM (jE (jV (jK (jc rfl (jm (jo rfl) (jf rfl (jM (jB (j8 999 [] rfl (jT 0 rfl (Val.moveS rfl) (jT 1 rfl (Val.moveI rfl) (jT 2 rfl (Val.sliceTo (m := 0) rfl rfl (by omega)) ?_))))))))))))))))))
 refine jT 3 rfl (Val.moveS rfl) (jT 4 rfl (Val.moveI rfl) (jT 5 rfl (Val.sliceFrom2 (m := j) rfl rfl (by omega) (by omega)) ?_))
 refine j5 6 rfl ?_
 refine WL.appRoom (ys := xs.drop j) (m := xs.length - j) 1 rfl rfl rfl (Rd.own 1 rfl _ _ (fun q u h => by
  rw [List.getElem?_drop] at h
  have hlt : j + q < xs.length := (List.getElem?_eq_some_iff.1 h).1
  rw [if_neg (by omega), Nat.zero_add, Nat.mul_one]
  exact hcs _ _ h)) hml (List.all_eq_true.2 fun x hx => List.all_eq_true.1 hall x (List.mem_of_mem_drop hx)) (by omega) (by omega) rfl ?_
 refine WL.nSet ?_
 refine jC (j7 [] rfl (jT 7 rfl (Val.assignS rfl) (j6 ?_)))
 rw [Nat.zero_add (xs.length - j)]
 refine jK (jc rfl (jc rfl (jm (jo rfl) (ja rfl (jm (Val.sliceMid (l := xs.length - j) (h := xs.length) rfl rfl rfl (by omega) (by omega)) ?_)))))
 rw [if_neg (show ¬ sc = xs.length - j by omega)]
 refine WL.clearB 1 rfl rfl rfl (by rw [splice_length (by rw [hml]; omega)]; omega) ?_
 refine WL.nSet ?_
 refine jN (jc rfl (jh rfl (jM (jR ?_))))
 refine WX.slIn (xs := xs.drop j) (sz := 1) (n := xs.length - j) (cap := sc) 1 rfl (by rw [splice_length (by rw [List.length_replicate, splice_length (by rw [hml]; omega)]; omega), splice_length (by rw [hml]; omega)]; omega) (by omega) k4 (by
  rw [splice_lo (by omega) (by rw [splice_length (by rw [hml]; omega)]; omega), Nat.mul_one, ← hml]
  have := splice_cut (C := cs) (vs := xs.drop j) (off := 0) (by omega)
  rw [Nat.zero_add, List.take_zero, List.nil_append] at this
  exact this) ?_
 exact jP [0] (jr1 rfl (jtS rfl)) ⟨rfl, rfl⟩
end Go.Proofs.YtggcpoleklcmkaaGreatDoor

namespace Go.Hi
open Go.Sl Go.Ls Go.Tr Go.Dc
theorem cms_cells {I : Mem} : ∀ {l : List Cm} {css : List (List Value)}, All2 (Cm.rep I) l css → css.length = l.length ∧ (∀ c ∈ css, c.length = 51) ∧ ∀ c ∈ css, c.all Value.oneCell' = true
 | [], [], _ => ⟨rfl, (fun c h => nomatch h), (fun c h => nomatch h)⟩
 | a :: l, c :: css, h => by
  obtain ⟨⟨e, t, u, d, q, rfl, hc⟩, h2⟩ := h
  obtain ⟨e1, e2, e3⟩ := cms_cells h2
  obtain ⟨_, _, _, _, _, _, _, _, _, _, rfl, rfl, rfl, rfl, rfl⟩ := hc.sl
  refine ⟨by rw [List.length_cons, List.length_cons, e1], fun c hc => ?_, fun c hc => ?_⟩
  ·rcases List.mem_cons.1 hc with rfl | hc
   ·rfl
   ·exact e2 c hc
  ·rcases List.mem_cons.1 hc with rfl | hc
   ·rfl
   ·exact e3 c hc
theorem Run.head {d d' : Dr} {c : Cm} {s t : List Cm} (h : Run d (c :: s) d' t) : GoodD d ∧ (d.apply c).2.2 = 0 ∧ ∃ t', Run (d.apply c).1 s d' t' := by
 cases h with
 | cons h he hr => exact ⟨h, he, _, hr⟩
theorem Run.same {d d' : Dr} {t : List Cm} (h : Run d [] d' t) : d = d' ∧ t = [] := by
 cases h with
 | nil _ => exact ⟨rfl, rfl⟩
end Go.Hi
namespace Go.Proofs.YtggcpoleklcmkaaGreatDoor
open Go.Sl Go.Ls Go.Tr Go.Dc Go.Hi
attribute [local irreducible] WCI WLI YieldC roundPost bodyM Code.wpIn
theorem sBackward (v : Value) (a : Option Addr) (n c : Nat) (hv : v = .slice a n c) (I : Mem) : Ctr Tryz.prog 121 [v] I [] (fun r I' L' => L' = [] ∧ ∃ g, r = .func (.func 154) #[] #[ptr g] ∧ Sl.At I' g 0 [v]) := by
 subst hv
 refine Ctr.intro Tryz.func121 rfl rfl rfl fun E F => ?_
 refine jS (WL.box rfl rfl (fun _ => ?_))
 refine jW ?_
 refine WL.val Val.assign rfl ?_
 refine jN (WL.val Val.makeFuncL rfl ?_)
 refine jm (Val.assignF rfl) (jM (jR ?_))
 rename_i g
 refine WX.boxFrz 1 rfl fun I1 hI1 hA1 => ?_
 refine WX.doneF (RunRes.r1 rfl (ResIs.tmp rfl)) hI1 ⟨rfl, g, rfl, hA1⟩
theorem sBack1 (l : Nat) (J : Nat → Mem → List HP → Prop) (bs : List Cm) (v : Value) (g : Nat) (I : Mem) (LJ : List HP) (hn : bs.length ≤ 1000000)
  (hY : ∀ (k : Nat) (hk : k < bs.length) (e t u dd q : Value) (I' : Mem) (L' : List HP), I.le I' → J (k + 1) I' L' → (bs[k]).at_ I' e t u dd q → YieldC Tryz.prog l [vi k, .agg ((bs[k]).cs e t u dd q).toArray] I' L' (fun v I2 L2 => v = .bool true ∧ J k I2 L2))
  (hv : LsAt Cm.rep I bs v) (hg : Sl.At I g 0 [v]) (hJ : J bs.length I LJ) :
  Ctr Tryz.prog 154 [yv l, ptr g] I LJ (fun _ I' L' => J 0 I' L') := by
 obtain ⟨a, c, rfl⟩ := hv.sl
 refine Ctr.intro Tryz.func154 rfl rfl rfl fun E F => ?_
 refine jS (jm (Val.loadS rfl (Rd.imm (by assumption))) ?_)
 refine jm (jo rfl) (jm (Val.sub rfl rfl (wrap_i64 (by omega) (by omega))) ?_)
 refine jf rfl (jM (WC.block ?_))
 refine WC.loop (fun n ρ' I' L' => ∃ (k : Nat) (LJ' : List HP), n = k ∧ k ≤ bs.length ∧ I.le I' ∧ ρ' 0 = yv l ∧ ρ' 1 = ptr g ∧ ρ' 3 = vi ((k : Int) - 1) ∧ L' = F :: LJ' ∧ J k I' LJ')
  bs.length ⟨bs.length, LJ, rfl, Nat.le_refl _, Mem.le.refl _, rfl, rfl, rfl, rfl, hJ⟩ ?_
 rintro k ρ' I0 L' ⟨_, LJ', rfl, hk, hI, h0, h1, h3, rfl, hJk⟩
 refine ju3 h3 h1 h0 ?_
 by_cases hk0 : k = 0
 ·subst hk0
  refine jB (jS (ja rfl (jm (Val.geq rfl rfl (decide_eq_false (by omega))) ?_)))
  exact jM (jE (WC.exit (WX.thenExit (WX.thenExit (WX.inHit (WX.doneFN (RunRes.r0 rfl) hI hJk))))))
 obtain ⟨j, rfl⟩ : ∃ j, k = j + 1 := ⟨k - 1, by omega⟩
 have hj1 : ((j + 1 : Nat) : Int) - 1 = (j : Int) := by omega
 rw [hj1]
 have hj : j < bs.length := by omega
 obtain ⟨bq, off, cap, cs, he, ⟨e, t, u, dd, q, rfl, hc⟩, hA⟩ := (hv.mono hI).get j hj
 cases he
 have hg0 := hg.mono hI
 have hYj := hY j hj e t u dd q I0 LJ' hI hJk hc
 refine jB (jS (ja rfl (jm (Val.geq rfl rfl (decide_eq_true (by omega))) ?_)))
 refine jM (jF (jV (jA (jB (WC.block (jB (WC.regionI ?_)))))))
 refine WLI.val (Val.moveF rfl) rfl ?_
 refine WLI.val (Val.moveI rfl) rfl ?_
 refine WLI.val (Val.loadS rfl (Rd.imm hg0)) rfl ?_
 refine WLI.val (Val.moveI rfl) rfl ?_
 refine WLI.val (Val.indexAddr rfl rfl (by omega) (by omega)) rfl ?_
 refine WLI.val (Val.loadI rfl hA rfl) rfl ?_
 refine WLI.yield rfl rfl hYj rfl ?_
 rintro v I1 L1 hI1 ⟨rfl, hJ1⟩
 refine WLI.of ?_
 refine jl rfl (jM (jE (jV (WX.inNormal (jA (jD (ja rfl (jm (Val.sub rfl rfl (wrap_i64 (by omega) (by omega))) ?_))))))))
 exact jf rfl (jC (WX.thenK (WK.round j (by omega) ⟨j, L1, rfl, by omega, hI.trans hI1, rfl, rfl, rfl, rfl, hJ1⟩)))
def HPlayR (D : Dm) (d : Dr) (l : List Cm) : Value → Mem → List HP → Prop := fun v I' L' => ∃ D' : Dm, D'.b = D.b ∧ L' = D'.hp ∧
 ((∃ d' bs a n, v = .tuple #[.slice a bs.length n, vi 0] ∧ DAbs I' D' d' ∧ Run d l d' bs ∧ LsAt Cm.rep I' bs (.slice a bs.length n)) ∨ (errS d l ≠ 0 ∧ v = .tuple #[.slice none 0 0, vi (errS d l)] ∧ DAbs I' D' d))
theorem hPlay (D : Dm) (d : Dr) (l : List Cm) (v : Value) (I : Mem) (hN : NeedAt I) (hD : DAbs I D d) (hG : GoodD d) (hv : LsAt Cm.rep I l v) (hfit : FitsS d l) (hl : l.length ≤ 1000000) :
  Ctr Tryz.prog 84 [ptr D.b, v] I D.hp (HPlayR D d l) := by
 have hv0 := hv
 obtain ⟨la, lc, rfl⟩ := hv.sl
 refine Ctr.introM Tryz.func84 rfl rfl rfl fun E F => ?_
 change WC _ _ _ _ [F, docBox D.b D.A.b D.mb D.segs, mp D.mb D.f D.cnt, _, _, _, _, _] _
 refine jS (WL.box rfl rfl (fun _ => ?_))
 refine jW ?_
 refine jh rfl (jf rfl (jN (jh rfl (jM (jB (jS (jc rfl (jm (jo rfl) (ja rfl (jM (WC.block ?_)))))))))))
 rename_i g2
 refine WC.slNil 59 51 ?_
 refine WC.nApp ?_
 refine WC.conv (fun w h => h.sub [0, 7, 0, 0, 0, 0, 0, 0, 0, 0] rfl) ?_
 refine WC.loop (fun n ρ' I' L' => ∃ (k : Nat) (D' : Dm) (d' : Dr) (bs : List Cm) (a : Option Addr) (c : Nat) (p : HP), n = l.length - k ∧ k ≤ l.length ∧ I.le I' ∧ ρ' 2 = ptr g2 ∧ ρ' 6 = .slice a bs.length c ∧ ρ' 13 = .slice la l.length lc ∧ ρ' 14 = vi l.length ∧ ρ' 15 = vi k ∧
   L' = F :: box g2 49 [ptr D.b] :: (D'.hp ++ [p]) ∧ D'.b = D.b ∧ DAbs I' D' d' ∧ Run d (l.take k) d' bs.reverse ∧ OwnL Cm.rep 59 51 I' bs (.slice a bs.length c) p ∧ FitsS d' (l.drop k) ∧ bs.length = k)
  l.length ⟨0, D, d, [], _, _, _, rfl, by omega, Mem.le.refl _, rfl, rfl, rfl, rfl, rfl, rfl, rfl, hD, by rw [List.take_zero]; exact .nil hG, OwnL.nil _ _ _ _, hfit, rfl⟩ ?_
 clear hD hfit
 rintro n ρ' I2 L' ⟨k, D1, d1, bs, a, cp, p, rfl, hk, hI2, r2, r6, r13, r14, r15, rfl, hDb, hD, hR, hp, hfit, hbl⟩
 refine ju5 r15 r14 r13 r6 r2 ?_
 rw [← hDb]
 change WC _ _ _ _ [F, box g2 49 [ptr D1.b], docBox D1.b D1.A.b D1.mb D1.segs, mp D1.mb D1.f D1.cnt, _, _, _, _, _, p] _
 by_cases hkn : k < l.length
 ·obtain ⟨bq, off, cap, cs, he, ⟨e, t, u, dd, q, rfl, hc⟩, hA⟩ := (hv0.mono hI2).get k hkn
  cases he
  have hG1 := hR.good.2
  obtain ⟨⟨A1, hA1⟩, hF, hdom⟩ := hG1
  rw [List.drop_eq_getElem_cons hkn] at hfit
  have htk := List.take_succ_eq_append_getElem hkn
  have hlk : l = l.take k ++ l[k] :: l.drop (k + 1) := by rw [← List.drop_eq_getElem_cons hkn, List.take_append_drop]
  obtain ⟨⟨f1, f2⟩, f3⟩ := hfit
  generalize l[k] = c at *
  have hc0 := hc
  obtain ⟨x0, y0, x1, y1, x2, y2, x3, y3, x4, y4, rfl, rfl, rfl, rfl, rfl⟩ := hc.sl
  refine jS (jy rfl rfl (jM (jB (jF (jV (jA (jB (WC.block (jS (jm (jZ rfl rfl) (jm (Val.loadI rfl (by assumption) rfl) ?_)))))))))))
  refine WL.alloc rfl (fun _ => ?_)
  refine jW ?_
  refine WL.stA 10 rfl rfl rfl rfl ?_
  refine jN (jm (jp 1 rfl rfl rfl) (jm (jt 10 rfl rfl rfl) ?_))
  rename_i g8
  refine WL.callP [2, 2, 2, 2, 2, 2, 2] rfl rfl (dApply D1 d1 c _ _ _ _ _ _ (hN.mono hI2) hD hc0 f1 hF.inv.nonneg f2) rfl ?_
  rintro _ I3 _ hI3 ⟨D', bcs, rfl, ⟨e', t', u', d', q', rfl, hbk⟩, hb, rfl, hD'⟩
  have hF' := hF.apply (c := c) hD.abs hdom hD'.abs
  have hbk0 := hbk
  obtain ⟨p0, o0, p1, o1, p2, o2, p3, o3, p4, o4, rfl, rfl, rfl, rfl, rfl⟩ := hbk.sl
  rw [← hb]
  refine jW ?_
  by_cases he : (d1.apply c).2.2 = 0
  ·rw [he]
   refine je rfl (jm (Val.extractA rfl rfl) (jm (jq rfl rfl) (WL.alloc rfl (fun _ => ?_))))
   refine jW ?_
   refine WL.stA 11 rfl rfl rfl rfl ?_
   refine jf rfl (jM (jB (jS (ja rfl (jz rfl rfl (jM (jE (jV (jA (jD (jc rfl (jm (jt 11 rfl rfl rfl) (WL.buildSlice (by with_unfolding_all exact rfl) rfl (by with_unfolding_all exact rfl) rfl (fun _ => ?_))))))))))))))
   refine jW ?_
   rename_i g9 g37
   refine WL.appOne (y := (d1.apply c).2.1) (cs := Cm.cs (d1.apply c).2.1 (.slice p0 (d1.apply c).2.1.ents.length o0) (.slice p1 (d1.apply c).2.1.atr.sty.fill.stops.length o1) (.slice p2 (d1.apply c).2.1.atr.sty.pen.stops.length o2) (.slice p3 (d1.apply c).2.1.atr.sty.dash.length o3) (.slice p4 (d1.apply c).2.1.atr.path.length o4)) 2 12 rfl rfl (hp.mono hI3) rfl rfl ⟨_, _, _, _, _, rfl, hbk0⟩ rfl rfl (by rfl) (by decide) (by omega) (by unfold maxLen; omega) rfl fun aa cc p' hp' => ?_
   refine WL.nSet ?_
   have hbl1 : (bs ++ [(d1.apply c).2.1]).length = bs.length + 1 := by rw [List.length_append]; rfl
   refine jh rfl (jC (WX.inNormal (jA (jD (jX rfl rfl (ja rfl (jC (WX.conv (fun w h => h.sub [0, 0, 2, 2, 2, 2, 2, 2, 2, 0] rfl) ?_))))))))
   refine WX.thenK (WK.round (l.length - (k + 1)) (by omega) ⟨k + 1, D', (d1.apply c).1, bs ++ [(d1.apply c).2.1], aa, cc, p', rfl, by omega, hI2.trans hI3, rfl, by rw [hbl1]; rfl, rfl, rfl, rfl, rfl, rfl, hD', ?_, by rw [hbl1]; exact hp', f3 he, by omega⟩)
   rw [htk, List.reverse_append]
   exact hR.snoc he ⟨⟨_, hD'.abs⟩, hF', hD'.dom⟩
  ·obtain ⟨q1, q2⟩ := apply_err he
   rw [q1] at hD'
   have herr : errS d l = (d1.apply c).2.2 := by rw [hlk]; exact hR.err_app _ he
   obtain ⟨tb, htb⟩ := hR.back
   have hfb := hR.fits
   rw [← herr] at he ⊢
   refine je rfl (jm (Val.extractA rfl rfl) (jm (jq rfl rfl) (WL.alloc rfl (fun _ => ?_))))
   refine jW ?_
   refine WL.stA 11 rfl rfl rfl rfl ?_
   refine jf rfl (jM (jB (jS (ja rfl (jJ rfl rfl (jM (jF (jB (jS (jc rfl ?_))))))))))
   rename_i g9
   refine WL.freezeL 2 rfl (hp.mono hI3) fun I4 hI4 hbv => ?_
   refine WL.callP [] rfl rfl (sBackward _ _ _ _ rfl _) rfl ?_
   rintro _ I5 _ hI5 ⟨rfl, g, rfl, hg⟩
   refine jW ?_
   refine jM (WC.block (WC.conv (fun w h => h.sub [0, 0, 1, 1, 1, 1, 1, 1, 1] rfl) ?_))
   have hJ5 := ((hI2.trans hI3).trans hI4).trans hI5
   refine WC.rangeFunc rfl rfl (fun I' L' => ∃ D2 : Dm, L' = box g2 49 [ptr D'.b] :: D2.hp ∧ D2.b = D'.b ∧ DAbs I' D2 d ∧ I5.le I') (fun _ _ _ => False) ?_ ?_ ?_
   ·intro Dd lid r hr
    refine (sBack1 lid (fun j I' L' => ∃ (D2 : Dm) (d2 : Dr) (t2 : List Cm), L' = lp lid (r .ready none) :: dp Dd :: box g2 49 [ptr D'.b] :: D2.hp ∧ D2.b = D'.b ∧ DAbs I' D2 d2 ∧ Run d2 (bs.take j).reverse d t2 ∧ FitsS d2 (bs.take j).reverse ∧ I5.le I') bs _ g I5 _ (by omega) ?_ (hbv.mono hI5) hg ⟨D', d1, tb, rfl, rfl, (hD'.mono hI4).mono hI5, by rw [List.take_length]; exact htb, by rw [List.take_length]; exact hfb, Mem.le.refl _⟩).mono ?_
    ·rintro j hj e t u dd q I6 L6 hI6 ⟨D2, d2, t2, rfl, hb2, hD2, hr2, hf2, _⟩ hcj
     rw [List.take_succ_eq_append_getElem hj, List.reverse_append] at hr2 hf2
     obtain ⟨k1, k2, t3, k3⟩ := Run.head hr2
     obtain ⟨⟨m1, m2⟩, m3⟩ := hf2
     generalize bs[j] = cj at *
     have hcj0 := hcj
     obtain ⟨z0, w0, z1, w1, z2, w2, z3, w3, z4, w4, rfl, rfl, rfl, rfl, rfl⟩ := hcj.sl
     refine YieldC.of_body hr rfl rfl fun E F => ?_
     rw [← hb2]
     change WCI _ _ _ _ _ [F, lp lid (r .ready none), dp Dd, box g2 49 [ptr D2.b], docBox D2.b D2.A.b D2.mb D2.segs, mp D2.mb D2.f D2.cnt, _, _, _, _, _] _
     refine WCI.region ?_
     refine WL.alloc rfl (fun _ => ?_)
     refine jW ?_
     refine WL.stA 11 rfl rfl rfl rfl ?_
     refine jC ?_
     rename_i g12
     refine WX.begin hr ?_
     refine WCI.block ?_
     refine WCI.region ?_
     refine jm (jp 3 rfl rfl rfl) (jm (jt 11 rfl rfl rfl) (WL.callP [4, 4, 4, 4, 4, 4, 4] rfl rfl (dApply D2 d2 cj _ _ _ _ _ _ (hN.mono (hJ5.trans hI6)) hD2 hcj0 m1 k1.2.1.inv.nonneg m2) rfl ?_))
     rintro _ I7 _ hI7 ⟨D3, bcs, rfl, ⟨e', t', u', d', q', rfl, hbk⟩, hb3, rfl, hD3⟩
     obtain ⟨_, _, _, _, _, _, _, _, _, _, rfl, rfl, rfl, rfl, rfl⟩ := hbk.sl
     refine jW ?_
     exact jC (WX.inNormal (WX.conv (fun w h => h.sub [0, 0, 0, 0, 1, 1, 1, 1, 1, 1, 1] rfl) (WX.roundGo hr hI7 ⟨rfl, D3, (d2.apply cj).1, t3, rfl, hb3, hD3, k3, m3 k2, hI6.trans hI7⟩)))
    ·rintro v I' L' hI' ⟨D2, d2, t2, rfl, hb2, hD2, hr2, _, hI5'⟩
     rw [List.take_zero, List.reverse_nil] at hr2
     obtain ⟨rfl, rfl⟩ := hr2.same
     exact .inl ⟨_, rfl, D2, rfl, hb2, hD2, hI5'⟩
   ·rintro Dd I' L1 hI' ⟨D2, rfl, hb2, hD2, _⟩
    change WX _ _ _ _ [F, dp Dd, box g2 49 [ptr D'.b], docBox D2.b D2.A.b D2.mb D2.segs, mp D2.mb D2.f D2.cnt, _, _, _, _, _] _
    refine WX.inNormal (jK (ja rfl (jh rfl (jf rfl (jM (jR (jU (WX.inRet (jU (jU (WX.inRet (jU ?_))))))))))))
    refine WX.doneM (RunRes.r2 rfl (ResIs.tmp rfl) (ResIs.tmp rfl)) [1, 1, 1, 1, 1, 1, 1] (hJ5.trans hI') ⟨D2, hb2.trans (hb.trans hDb), rfl, .inr ⟨he, rfl, hD2⟩⟩
   ·intro Dd c I' L1 hI' h
    exact h.elim
 ·have hkl : k = l.length := by omega
  subst hkl
  rw [List.take_length] at hR
  obtain ⟨css, rfl, hall⟩ := hp
  obtain ⟨e1, e2, e3⟩ := cms_cells hall
  refine jS (jx rfl rfl (jM (jB (jE (WC.exit (WX.thenExit (WX.thenExit (WX.inHit (jK (jc rfl (WL.callP [9] rfl rfl (sRev css bs.length e1 e2 e3 (by omega) _ _) rfl ?_)))))))))))
  rintro _ I3 _ hI3 ⟨rfl, rfl⟩
  refine jW ?_
  have hpr : OwnL Cm.rep 59 51 I3 bs.reverse (.slice a bs.length cp) (sl 59 51 (.slice a bs.length cp) bs.length css.reverse.flatten) := ⟨css.reverse, by rw [List.length_reverse], Go.Hi.All2.rev hall⟩
  refine WL.freezeL 9 rfl hpr fun I4 hI4 hbv => ?_
  refine jN (jc rfl (jh rfl (jf rfl (jM (jR ?_)))))
  refine WX.doneM0 (RunRes.r2 rfl (ResIs.tmp rfl) (ResIs.tmp rfl)) [1, 1, 1, 1, 1, 1, 1] (hI2.trans hI4) ⟨D1, hDb, rfl, .inl ⟨d1, bs.reverse, a, cp, ?_, hD.mono hI4, hR, ?_⟩⟩
  ·rw [List.length_reverse]; rfl
  ·rw [List.length_reverse]; exact hbv
end Go.Proofs.YtggcpoleklcmkaaGreatDoor

namespace Go.Sl
open Go.Ls
theorem splice_one {cs : List Value} {off : Nat} {v : Value} (h : off < cs.length) : splice cs off [v] = cs.set off v := by
 unfold splice
 rw [List.set_eq_take_append_cons_drop, if_pos h, List.append_assoc]
 rfl
section
variable {Γ : Cx} {ops : Array Oper} {rest : List Oper} {ρ : Nat → Value} {I : Mem} {L : List HP} {Q : Post} {ty : TypeId} {ps : String} {af : Array Edge}
theorem WL.storeAt {t b off bt : Nat} {x y : Operand} {cs : List Value} {v : Value} (k : Nat) [hk : TyK Γ.P t false 1] (hx : ev ρ x = .pointer (some ⟨b, off, none⟩)) (hL : L[k]? = some (Sl.box b bt cs)) (hy : ev ρ y = v) (hv : v.cells.toList = [v]) (h1 : v.oneCell' = true) (ho : off < cs.length)
  (next : WL Γ ops rest ρ I (L.set k (Sl.box b bt (cs.set off v))) Q) : WL Γ ops ({ dst := none, op := .store t x y, type := ty, pos := ps, after := af, guard := none } :: rest) ρ I L Q := by
 refine WL.store k hx hL ?_ ?_
 ·rw [hy, hv]
  have : Nat.ble (off + 1) cs.length = true := Nat.ble_eq_true_of_le ho
  simp [storeOk, h1, this]
 ·rw [hy, hv, splice_one ho]; exact next
theorem WC.ownOpen {α : Type} {R : Rep α} {c : Code} {e sz : Nat} {l : List α} {v : Value} {p : HP} (k : Nat) (hL : L[k]? = some p) (hp : OwnL R e sz I l v p) (next : ∀ aa cap, v = .slice aa l.length cap → (0 < l.length → ∃ g, aa = some ⟨g, 0, none⟩) → l.length ≤ cap → WC Γ c ρ I L Q) : WC Γ c ρ I L Q := by
 obtain ⟨css, rfl, _⟩ := hp
 exact WC.slOpen k hL next
end
end Go.Sl
namespace Go.Hi
open Go.Sl Go.Ls Go.Tr Go.Dc
theorem keep_all {α : Type} {n : Nat} {l : List α} (h : l.length ≤ n) : keep n l = l := by
 rw [keep, show l.length - n = 0 by omega, List.drop_zero]
theorem keep_len {α : Type} {n : Nat} {l : List α} : (keep n l).length = min n l.length := by
 rw [keep, List.length_drop]; omega
end Go.Hi
namespace Go.Proofs.YtggcpoleklcmkaaGreatDoor
open Go.Sl Go.Ls Go.Tr Go.Dc Go.Hi
structure Hm where
 b : Nat
 D : Dm
 bnd : Nat
 uv : Value
 rv : Value
 up : HP
 rp : HP
abbrev Hm.cs (H : Hm) : List Value := [ptr H.D.b, vi H.bnd, H.uv, H.rv]
abbrev Hm.hp (H : Hm) : List HP := box H.b 153 (Hm.cs H) :: H.up :: H.rp :: H.D.hp
structure HAbs (I : Mem) (H : Hm) (d : Dr) (us rs : List (List Cm)) (ws ns : List Dr) : Prop where
 dab : DAbs I H.D d
 good : GoodD d
 u : OwnL Step.rep 154 1 I us H.uv H.up
 r : OwnL Step.rep 154 1 I rs H.rv H.rp
 cu : Chain d us ws
 cr : Chain d rs ns
 ul : us.length ≤ H.bnd
 rl : rs.length ≤ H.bnd
 su : ∀ s ∈ us, s.length ≤ 64
 sr : ∀ s ∈ rs, s.length ≤ 64
 b1 : 1 ≤ H.bnd
 b2 : H.bnd ≤ 1024
theorem hPush (cs : List Value) (f hb bnd : Nat) (us : List (List Cm)) (s : List Cm) (sv x : Value) (p : HP) (I : Mem) (hoff : cs[f]? = some sv) (hp : OwnL Step.rep 154 1 I us sv p) (hx : LsAt Cm.rep I s x) (hn : us.length ≤ 100000) (hb1 : 1 ≤ bnd) (hb2 : bnd ≤ 100000) :
  Ctr Tryz.prog 85 [.pointer (some ⟨hb, f, none⟩), x, vi bnd] I [box hb 153 cs, p]
   (fun _ I' L' => I' = I ∧ ∃ sv' p', L' = [box hb 153 (cs.set f sv'), p'] ∧ OwnL Step.rep 154 1 I (keep bnd (us ++ [s])) sv' p') := by
 have hfl : f < cs.length := (List.getElem?_eq_some_iff.1 hoff).1
 obtain ⟨xa, xc, rfl⟩ := hx.sl
 have hsl : (us ++ [s]).length = us.length + 1 := by rw [List.length_append]; rfl
 refine Ctr.intro Tryz.func85 rfl rfl rfl fun E F => ?_
 refine WC.ownOpen 2 rfl hp fun sa sc hs hsg hsc => ?_
 subst hs
 refine jS (jd rfl (jd rfl (jm (jr rfl) (jm (Val.loadS rfl (Rd.own1 1 rfl hoff)) ?_))))
 refine jc rfl (WL.buildSlice (by with_unfolding_all exact rfl) rfl (by with_unfolding_all exact rfl) rfl (fun _ => ?_))
 refine jW ?_
 rename_i g
 refine WL.appOne (y := s) (cs := [.slice xa s.length xc]) 2 3 rfl rfl hp rfl rfl ⟨_, rfl, hx⟩ rfl rfl (by rfl) (by decide) (by omega) (by unfold maxLen; omega) rfl fun aa cc p' hp' => ?_
 refine WL.nSet ?_
 refine jm (jr rfl) (WL.storeAt 1 rfl rfl rfl rfl rfl hfl ?_)
 refine WL.nSet ?_
 have hoff2 : (cs.set f (.slice aa (us.length + 1) cc))[f]? = some (.slice aa (us.length + 1) cc) := by rw [List.getElem?_set, if_pos rfl, if_pos hfl]
 refine jN (jd rfl (jm (jr rfl) (jm (Val.loadS rfl (Rd.own1 1 rfl hoff2)) ?_)))
 by_cases hk : us.length + 1 ≤ bnd
 ·skip
  refine jm (jo rfl) (ja rfl (jm (Val.sub rfl rfl (wrap_i64 (by omega) (by omega))) ?_))
  refine jf rfl (jN (ja rfl (jL rfl rfl (jM (jE (jV ?_))))))
  apply WX.doneN (ks := [0, 0])
  case hres => exact RunRes.r0 rfl
  case hp => rfl
  case hI => first | exact Mem.le.refl _ | assumption
  refine ⟨rfl, _, _, rfl, ?_⟩
  rw [keep_all (by omega)]
  exact hp'
 obtain ⟨m, hm⟩ : ∃ m, us.length + 1 = m + bnd := ⟨us.length + 1 - bnd, by omega⟩
 have hmi : ((us.length + 1 : Nat) : Int) - (bnd : Int) = (m : Int) := by omega
 refine jm (jo rfl) (ja rfl (jm (Val.sub rfl rfl (wrap_i64 (by omega) (by omega))) ?_))
 refine jf rfl (jN (ja rfl (jO rfl rfl (jM (jF (jD (jd rfl (jd rfl (jm (jr rfl) (jm (Val.loadS rfl (Rd.own1 1 rfl hoff2)) ?_))))))))))
 refine ja rfl ?_
 rw [hmi]
 obtain ⟨css, rfl, hall⟩ := hp'
 obtain ⟨e1, e2, e3⟩ := one_flat hall
 rw [hsl]
 refine WL.callP [2] rfl rfl (sDel css.flatten (us.length + 1) m (by omega) _ _ e2 (by omega) (by omega) (by omega)) rfl ?_
 rintro r I2 _ hI2 ⟨rfl, rfl⟩
 refine jW ?_
 refine WL.slOpen 3 rfl fun ra rc hr => ?_
 subst hr
 refine jm (jr rfl) (WL.storeAt 1 rfl rfl rfl rfl rfl (by rw [List.length_set]; exact hfl) ?_)
 refine WL.nSet ?_
 rw [List.set_set]
 refine jC ?_
 apply WX.doneN (ks := [0, 1])
 case hres => exact RunRes.r0 rfl
 case hp => rfl
 case hI => first | exact Mem.le.refl _ | assumption
 refine ⟨rfl, .slice ra (us.length + 1 - m) rc, _, rfl, css.drop m, ?_, ?_⟩
 ·rw [e3, keep, List.length_drop, hsl, show us.length + 1 - bnd = m by omega]
 ·rw [keep, hsl, show us.length + 1 - bnd = m by omega]
  exact Go.Hi.All2.drop m hall
theorem hNew (b : Int) (I : Mem) (h64 : I64 b) : Ctr Tryz.prog 40 [vi b] I [] (fun v I' L' => I' = I ∧ (((b < 1 ∨ 1024 < b) ∧ v = .pointer none ∧ L' = []) ∨ (1 ≤ b ∧ b ≤ 1024 ∧ ∃ H : Hm, v = ptr H.b ∧ (H.bnd : Int) = b ∧ L' = Hm.hp H ∧ HAbs I H Dr.new [] [] [] []))) := by
 obtain ⟨i1, i2⟩ := h64
 refine Ctr.intro Tryz.func40 rfl rfl rfl fun E F => ?_
 refine WC.slNil 154 1 ?_
 refine WC.nApp ?_
 refine WC.slNil 154 1 ?_
 refine WC.nApp ?_
 by_cases h1 : b < 1
 ·skip
  refine jS (ji rfl (jM (jB (jS (ja rfl (jy rfl rfl (jb rfl (jH (jH (jk rfl (jM (jF (jS (ji rfl (jM (jR (jU ?_)))))))))))))))))
  exact jP [] (jr1 rfl (ResIs.tmpP rfl)) ⟨rfl, .inl ⟨.inl h1, rfl, rfl⟩⟩
 by_cases h2 : 1024 < b
 ·skip
  refine jS (ji rfl (jM (jB (jS (ja rfl (jx rfl rfl (jb rfl (jG (ja rfl (jG (jO rfl rfl (jk rfl (jM (jF (jS (ji rfl (jM (jR (jU ?_)))))))))))))))))))
  exact jP [] (jr1 rfl (ResIs.tmpP rfl)) ⟨rfl, .inl ⟨.inr h2, rfl, rfl⟩⟩
 obtain ⟨n, rfl⟩ : ∃ n : Nat, b = n := ⟨b.toNat, by omega⟩
 refine jS (ji rfl (jM (jB (jS (ja rfl (jx rfl rfl (jb rfl (jG (ja rfl (jG (jL rfl rfl (jk rfl (jM (jE (jV (jK (WL.callP [] rfl rfl (dNew _) rfl ?_)))))))))))))))))
 rintro _ I1 _ _ ⟨rfl, b0, tb, mb0, cg, db, rfl, rfl⟩
 have hD0 := new_abs I1 b0 mb0 cg db tb
 change WL _ _ _ _ _ (_ ++ [_, _, _, _, _, _, _]) _
 refine jW ?_
 refine ja rfl (jm (Val.build (cs := [ptr db, vi n, .slice none 0 0, .slice none 0 0]) rfl) ?_)
 refine WL.boxA rfl rfl (fun _ => ?_)
 refine jW ?_
 refine ji rfl (jM (jR ?_))
 refine jP [9, 0, 0, 0, 0, 0, 0, 0, 0, 0] (jr1 rfl (ResIs.tmpP rfl)) ?_
 rename_i g
 exact ⟨rfl, .inr ⟨by omega, by omega, ⟨g, _, n, .slice none 0 0, .slice none 0 0, _, _⟩, rfl, rfl, rfl, ⟨hD0, GoodD.new, OwnL.nil _ _ _ _, OwnL.nil _ _ _ _, .nil, .nil, Nat.zero_le _, Nat.zero_le _, (fun s h => nomatch h), (fun s h => nomatch h), by show 1 ≤ n; omega, by show n ≤ 1024; omega⟩⟩⟩
theorem hUndos (H : Hm) (d : Dr) (us rs : List (List Cm)) (ws ns : List Dr) (I : Mem) (hH : HAbs I H d us rs ws ns) : Ctr Tryz.prog 43 [ptr H.b] I (Hm.hp H) (Keep I (Hm.hp H) fun v => v = vi us.length) := by
 refine Ctr.intro Tryz.func43 rfl rfl rfl fun E F => ?_
 obtain ⟨b, D, bnd, uv, rv, up, rp⟩ := H
 refine WC.ownOpen 2 rfl hH.u fun sa sc hs _ _ => ?_
 cases hs
 change WC _ _ _ _ [F, box b 153 [ptr D.b, vi bnd, .slice sa us.length sc, rv], up, rp, _, _, _, _, _, _, _] _
 refine jS (jf rfl (jN (jd rfl (jm (jr rfl) (jm (jn rfl) (jm (jp 1 rfl rfl rfl) (jm (jo rfl) (jf rfl (jM (jR ?_))))))))))
 exact jP [0, 0, 0, 0, 0, 0, 0, 0, 0, 0] (jr1 rfl (jtI rfl)) ⟨rfl, rfl, rfl⟩
theorem hRedos (H : Hm) (d : Dr) (us rs : List (List Cm)) (ws ns : List Dr) (I : Mem) (hH : HAbs I H d us rs ws ns) : Ctr Tryz.prog 46 [ptr H.b] I (Hm.hp H) (Keep I (Hm.hp H) fun v => v = vi rs.length) := by
 refine Ctr.intro Tryz.func46 rfl rfl rfl fun E F => ?_
 obtain ⟨b, D, bnd, uv, rv, up, rp⟩ := H
 refine WC.ownOpen 3 rfl hH.r fun sa sc hs _ _ => ?_
 cases hs
 change WC _ _ _ _ [F, box b 153 [ptr D.b, vi bnd, uv, .slice sa rs.length sc], up, rp, _, _, _, _, _, _, _] _
 refine jS (jf rfl (jN (jd rfl (jm (jr rfl) (jm (jn rfl) (jm (jp 1 rfl rfl rfl) (jm (jo rfl) (jf rfl (jM (jR ?_))))))))))
 exact jP [0, 0, 0, 0, 0, 0, 0, 0, 0, 0] (jr1 rfl (jtI rfl)) ⟨rfl, rfl, rfl⟩
theorem hDoc (H : Hm) (d : Dr) (us rs : List (List Cm)) (ws ns : List Dr) (I : Mem) (hH : HAbs I H d us rs ws ns) : Ctr Tryz.prog 45 [ptr H.b] I (Hm.hp H) (fun v I' L' => I' = I ∧ ∃ D2 : Dm, v = ptr D2.b ∧ L' = Hm.hp H ++ D2.hp ∧ DAbs I D2 d) := by
 refine Ctr.intro Tryz.func45 rfl rfl rfl fun E F => ?_
 obtain ⟨b, D, bnd, uv, rv, up, rp⟩ := H
 change WC _ _ _ _ [F, box b 153 [ptr D.b, vi bnd, uv, rv], up, rp, docBox D.b D.A.b D.mb D.segs, mp D.mb D.f D.cnt, _, _, _, _, _] _
 refine jS (ji rfl (jN (jd rfl (jm (jr rfl) (jm (jn rfl) (jm (jp 1 rfl rfl rfl) (WL.callP [4, 4, 4, 4, 4, 4, 4] rfl rfl (dCopy D d _ hH.dab) rfl ?_)))))))
 rintro _ I1 _ _ ⟨rfl, D2, rfl, rfl, hD2⟩
 change WL _ _ _ _ _ (_ ++ [docBox D.b D.A.b D.mb D.segs, mp D.mb D.f D.cnt, _, _, _, _, _, docBox D2.b D2.A.b D2.mb D2.segs, mp D2.mb D2.f D2.cnt, _, _, _, _, _]) _
 refine jW ?_
 refine ji rfl (jM (jR ?_))
 exact jP [0, 0, 0, 0, 0, 0, 0, 0, 0, 0, 0, 0, 0, 0, 0, 0, 0] (jr1 rfl (ResIs.tmpP rfl)) ⟨rfl, D2, rfl, rfl, hD2⟩
end Go.Proofs.YtggcpoleklcmkaaGreatDoor

namespace Go.Hi
open Go.Sl Go.Ls Go.Tr Go.Dc
theorem all2_snoc {α β : Type} {R : α → β → Prop} {a : α} : ∀ {l : List α} {r : List β}, All2 R (l ++ [a]) r → ∃ r' b, r = r' ++ [b] ∧ All2 R l r' ∧ R a b
 | [], [b], h => ⟨[], b, rfl, trivial, h.1⟩
 | [], b :: c :: r, h => h.2.elim
 | [], [], h => h.elim
 | x :: l, [], h => h.elim
 | x :: l, y :: r, h => by
  obtain ⟨r', b, rfl, h1, h2⟩ := all2_snoc (l := l) h.2
  exact ⟨y :: r', b, rfl, ⟨h.1, h1⟩, h2⟩
theorem Run.len {d d' : Dr} {s bs : List Cm} (h : Run d s d' bs) : bs.length = s.length := by
 induction h with
 | nil _ => rfl
 | cons _ _ _ ih => rw [List.length_append, ih]; rfl
theorem Chain.push {d w : Dr} {us : List (List Cm)} {ws : List Dr} {s s0 : List Cm} (n : Nat) (hr : Run w s0 d s) (h : Chain w us ws) : Chain d (keep n (us ++ [s])) (keep n (ws ++ [w])) := by
 have h1 := Chain.snoc hr h
 have h2 := h1.len
 rw [keep, keep, h2]
 exact h1.drop _
theorem keep_mem {α : Type} {n : Nat} {l : List α} {x : α} (h : x ∈ keep n l) : x ∈ l := List.mem_of_mem_drop h
theorem concat_of {α : Type} {l : List α} (h : ¬ l.length = 0) : ∃ k x, l = k ++ [x] := by
 have h1 : l ≠ [] := fun e => h (by rw [e]; rfl)
 exact ⟨l.dropLast, l.getLast h1, (List.dropLast_concat_getLast h1).symm⟩
end Go.Hi
namespace Go.Proofs.YtggcpoleklcmkaaGreatDoor
open Go.Sl Go.Ls Go.Tr Go.Dc Go.Hi
theorem hTurn (cs : List Value) (f1 f2 hb bnd : Nat) (D : Dm) (d : Dr) (us rs : List (List Cm)) (fv tv : Value) (pf pt : HP) (I : Mem) (hN : NeedAt I) (hD : DAbs I D d) (hG : GoodD d) (c0 : cs[0]? = some (ptr D.b)) (c1 : cs[1]? = some (vi bnd)) (cf : cs[f1]? = some fv) (ct : cs[f2]? = some tv) (hne : f1 ≠ f2) (hn1 : f1 ≠ 1)
  (hpf : OwnL Step.rep 154 1 I us fv pf) (hpt : OwnL Step.rep 154 1 I rs tv pt) (hus : us.length ≤ 100000) (hrs : rs.length ≤ 100000) (hb1 : 1 ≤ bnd) (hb2 : bnd ≤ 100000)
  (hrun : ∀ ws s, us = ws ++ [s] → FitsS d s ∧ s.length ≤ 1000000 ∧ ∃ d' bs, Run d s d' bs) :
  Ctr Tryz.prog 86 [ptr hb, .pointer (some ⟨hb, f1, none⟩), .pointer (some ⟨hb, f2, none⟩)] I (box hb 153 cs :: pf :: pt :: D.hp)
   (fun v I' L' => (us = [] ∧ v = vi 50 ∧ L' = box hb 153 cs :: pf :: pt :: D.hp) ∨
    (∃ ws s d' bs, ∃ D' : Dm, ∃ fv' tv' pf' pt', us = ws ++ [s] ∧ v = vi 0 ∧ D'.b = D.b ∧ L' = box hb 153 ((cs.set f1 fv').set f2 tv') :: pf' :: pt' :: D'.hp ∧ DAbs I' D' d' ∧ Run d s d' bs ∧ OwnL Step.rep 154 1 I' ws fv' pf' ∧ OwnL Step.rep 154 1 I' (keep bnd (rs ++ [bs])) tv' pt')) := by
 have hf1 : f1 < cs.length := (List.getElem?_eq_some_iff.1 cf).1
 refine Ctr.intro Tryz.func86 rfl rfl rfl fun E F => ?_
 change WC _ _ _ _ [F, box hb 153 cs, pf, pt, docBox D.b D.A.b D.mb D.segs, mp D.mb D.f D.cnt, _, _, _, _, _] _
 refine WC.ownOpen 2 rfl hpf fun sa sc hs hsg hsc => ?_
 subst hs
 refine jS (jf rfl (jN (jd rfl (jm (jr rfl) (jm (Val.loadS rfl (Rd.own1 1 rfl cf)) ?_)))))
 by_cases hu : us.length = 0
 ·skip
  refine jm (jo rfl) (jm (Val.sub rfl rfl (wrap_i64 (by omega) (by omega))) ?_)
  refine jf rfl (jM (jB (jS (ja rfl (jy rfl rfl (jM (jF (jS (jf rfl (jM (jR (jU ?_))))))))))))
  exact jP [0, 0, 0, 0, 0, 0, 0, 0, 0, 0] (jr1 rfl (jtI rfl)) (.inl ⟨List.eq_nil_of_length_eq_zero hu, rfl, rfl⟩)
 obtain ⟨ws, s, rfl⟩ := concat_of hu
 obtain ⟨hfit, hsl, d9, b9, hR9⟩ := hrun ws s rfl
 have hl1 : (ws ++ [s]).length = ws.length + 1 := by rw [List.length_append]; rfl
 obtain ⟨g, rfl⟩ := hsg (by omega)
 have hli : (((ws ++ [s]).length : Nat) : Int) - 1 = (ws.length : Int) := by omega
 refine jm (jo rfl) (jm (Val.sub rfl rfl (wrap_i64 (by omega) (by omega))) ?_)
 refine jf rfl (jM (jB (jS (ja rfl (jx rfl rfl (jM (jE (jV (jA (jB ?_))))))))))
 rw [hli]
 obtain ⟨css, rfl, hall⟩ := hpf
 obtain ⟨cw, b, rfl, hw, x, rfl, hx⟩ := all2_snoc hall
 obtain ⟨e1, e2, e3⟩ := one_flat hw
 obtain ⟨xa, xc, rfl⟩ := hx.sl
 have hfl : (cw ++ [[Value.slice xa s.length xc]]).flatten = cw.flatten ++ [Value.slice xa s.length xc] := by rw [List.flatten_append]; rfl
 rw [hfl] at *
 have hel : ∀ q u, [Value.slice xa s.length xc][q]? = some u → (cw.flatten ++ [Value.slice xa s.length xc])[0 + (ws.length : Int).toNat * 1 + q]? = some u := fun q u h => by
  rw [List.getElem?_append_right (by rw [e1, Int.toNat_natCast]; omega), e1, Int.toNat_natCast, show 0 + ws.length * 1 + q - ws.length = q by omega]
  exact h
 refine j8 999 [1, 1] rfl (jT 0 rfl (Val.moveP rfl) (jT 1 rfl (jr rfl) (jT 2 rfl (jn rfl) (jT 3 rfl (Val.loadS rfl (Rd.own1 0 rfl c0)) ?_))))
 refine jT 4 rfl (Val.moveP rfl) (jT 5 rfl (jr rfl) (jT 6 rfl (Val.loadS rfl (Rd.own1 0 rfl cf)) ?_))
 refine jT 7 rfl (Val.moveI rfl) (jT 8 rfl (jZ rfl rfl) (jT 9 rfl (Val.loadS rfl (Rd.slN 1 rfl _ _ hel)) ?_))
 refine j5 10 rfl (WL.callP [4, 4, 4, 4, 4, 4, 4] rfl rfl (hPlay D d s _ _ hN hD hG hx hfit hsl) rfl ?_)
 rintro _ I1 _ hI1 ⟨D1, hb1', rfl, (⟨d1, bs, ba, bn, rfl, hD1, hR, hbv⟩ | ⟨he, _⟩)⟩
 case inr => exact absurd hR9.err he
 change WL _ _ _ _ _ (_ ++ [docBox D1.b D1.A.b D1.mb D1.segs, mp D1.mb D1.f D1.cnt, _, _, _, _, _]) _
 refine jW ?_
 refine jC (j9 [1, 1] (hI1) rfl (jT 11 rfl (Val.moveT rfl) (jT 12 rfl (Val.extractS rfl rfl) (jT 13 rfl (jq rfl rfl) (jT 14 rfl (Val.assignS rfl) (jT 15 rfl (Val.assignI rfl) (j6 (jA (jB (jS (ja rfl (jz rfl rfl (jM (jE (jV (jK (jd rfl (jd rfl (jm (jr rfl) (jm (Val.loadS rfl (Rd.own1 1 rfl cf)) ?_))))))))))))))))))))
 refine ja rfl (jm (Val.sliceTo (m := ws.length) rfl rfl (by omega)) ?_)
 refine jm (jr rfl) (WL.storeAt 1 rfl rfl rfl rfl rfl hf1 ?_)
 refine WL.nSet ?_
 refine WL.slOut 2 rfl fun xs k1 k2 k3 k4 => ?_
 refine WL.nSet ?_
 refine WL.slIn (xs := cw.flatten) (sz := 1) (n := ws.length) (cap := sc) 2 rfl k1 (by omega) k4 (by
  have := congrArg (List.take (ws.length * 1)) k2
  rw [List.take_take, Nat.min_eq_left (by omega), List.take_append_of_le_length (by omega), List.take_of_length_le (l := cw.flatten) (by omega)] at this
  exact this) ?_
 have c1' : (cs.set f1 (.slice (some ⟨g, 0, none⟩) ws.length sc))[1]? = some (vi bnd) := by rw [List.getElem?_set, if_neg hn1]; exact c1
 have ct' : (cs.set f1 (.slice (some ⟨g, 0, none⟩) ws.length sc))[f2]? = some tv := by rw [List.getElem?_set, if_neg hne]; exact ct
 refine jN (jd rfl (jc rfl (jd rfl (jm (jr rfl) (jm (jn rfl) (jm (Val.loadS rfl (Rd.own1 1 rfl c1')) ?_))))))
 refine WL.callP [1, 2] rfl rfl (hPush _ f2 hb bnd rs bs tv _ pt _ ct' (hpt.mono hI1) hbv hrs hb1 hb2) rfl ?_
 rintro _ I2 _ hI2 ⟨rfl, tv', pt', rfl, hpt'⟩
 refine jW ?_
 refine jN (jf rfl (jM (jR ?_)))
 exact jP [8, 0, 7, 0, 0, 0, 0, 0, 0, 0] (jr1 rfl (jtI rfl)) (.inr ⟨ws, s, d1, bs, D1, _, tv', _, pt', rfl, rfl, hb1', rfl, hD1, hR, OwnL.mono ⟨cw, rfl, hw⟩ hI1, hpt'⟩)
def TurnR (H : Hm) (d : Dr) (us rs : List (List Cm)) (ws ns : List Dr) (fw : Bool) : Value → Mem → List HP → Prop := fun v I' L' => (us = [] ∧ v = vi 50 ∧ L' = Hm.hp H) ∨
 ∃ (H' : Hm) (u1 : List (List Cm)) (s : List Cm) (w : Dr) (w1 : List Dr) (bs : List Cm), us = u1 ++ [s] ∧ ws = w1 ++ [w] ∧ v = vi 0 ∧ H'.b = H.b ∧ H'.bnd = H.bnd ∧ L' = Hm.hp H' ∧
  if fw then HAbs I' H' w (keep H.bnd (rs ++ [bs])) u1 (keep H.bnd (ns ++ [d])) w1 else HAbs I' H' w u1 (keep H.bnd (rs ++ [bs])) w1 (keep H.bnd (ns ++ [d]))
theorem hUndo (H : Hm) (d : Dr) (us rs : List (List Cm)) (ws ns : List Dr) (I : Mem) (hN : NeedAt I) (hH : HAbs I H d us rs ws ns) : Ctr Tryz.prog 44 [ptr H.b] I (Hm.hp H) (TurnR H d us rs ws ns false) := by
 obtain ⟨b, D, bnd, uv, rv, up, rp⟩ := H
 have hb1 := hH.b1
 have hb2 := hH.b2
 have hul := hH.ul
 have hrl := hH.rl
 simp only at hb1 hb2 hul hrl
 refine Ctr.intro Tryz.func44 rfl rfl rfl fun E F => ?_
 change WC _ _ _ _ [F, box b 153 [ptr D.b, vi bnd, uv, rv], up, rp, docBox D.b D.A.b D.mb D.segs, mp D.mb D.f D.cnt, _, _, _, _, _] _
 refine jS (jf rfl (jM (jB (j8 999 [] rfl (jT 0 rfl (Val.moveP rfl) (jT 1 rfl (Val.moveP rfl) (jT 2 rfl (jr rfl) (jT 3 rfl (jn rfl) (jT 4 rfl (Val.moveP rfl) (jT 5 rfl (jr rfl) (jT 6 rfl (jn rfl) (j5 7 rfl ?_))))))))))))
 refine WL.callP [1, 1, 1, 1, 1, 1, 1, 1, 1, 1] rfl rfl (hTurn [ptr D.b, vi bnd, uv, rv] 2 3 b bnd D d us rs uv rv up rp _ hN hH.dab hH.good rfl rfl rfl rfl (by decide) (by decide) hH.u hH.r (by omega) (by omega) hb1 (by omega) (fun w1 s e => by
  have h1 := hH.cu
  rw [e] at h1
  obtain ⟨w, vs, s0, t, _, h2, h3, _⟩ := h1.top
  have h4 := hH.su s (by rw [e]; simp)
  exact ⟨h2.fits, by omega, _, _, h3⟩)) rfl ?_
 rintro _ I1 _ hI1 (⟨rfl, rfl, rfl⟩ | ⟨u1, s, d1, bs, D1, fv, tv, pf, pt, rfl, rfl, hbb, rfl, hD1, hR, hp1, hp2⟩)
 ·change WL _ _ _ _ _ (_ ++ [box b 153 [ptr D.b, vi bnd, uv, rv], up, rp, docBox D.b D.A.b D.mb D.segs, mp D.mb D.f D.cnt, _, _, _, _, _]) _
  refine jW ?_
  refine jC (j9 [] (hI1) rfl (jT 8 rfl (Val.assignI rfl) (j6 (jA (jR ?_)))))
  exact jP [0, 0, 0, 0, 0, 0, 0, 0, 0, 0] (jr1 rfl (jtI rfl)) (.inl ⟨rfl, rfl, rfl⟩)
 ·change WL _ _ _ _ _ (_ ++ [box b 153 [ptr D.b, vi bnd, fv, tv], pf, pt, docBox D1.b D1.A.b D1.mb D1.segs, mp D1.mb D1.f D1.cnt, _, _, _, _, _]) _
  refine jW ?_
  refine jC (j9 [] (hI1) rfl (jT 8 rfl (Val.assignI rfl) (j6 (jA (jR ?_)))))
  refine jP [0, 0, 0, 0, 0, 0, 0, 0, 0, 0] (jr1 rfl (jtI rfl)) ?_
  obtain ⟨w, vs, s0, t, rfl, h2, h3, h4⟩ := hH.cu.top
  obtain ⟨rfl, rfl⟩ := h3.uniq hR
  have h5 := hH.su s (by simp)
  refine .inr ⟨⟨b, D1, bnd, fv, tv, pf, pt⟩, u1, s, w, vs, t, rfl, rfl, rfl, rfl, rfl, by rw [Hm.hp, Hm.cs, ← hbb], ?_⟩
  rw [if_neg (by decide)]
  refine ⟨hD1, hR.good.2, hp1, hp2, h4, Chain.push _ hR hH.cr, ?_, ?_, fun x hx => hH.su x (List.mem_append_left _ hx), fun x hx => ?_, hb1, hb2⟩
  ·rw [List.length_append] at hul
   show u1.length ≤ bnd
   omega
  ·rw [keep_len]; exact Nat.min_le_left _ _
  ·rcases List.mem_append.1 (keep_mem hx) with hx | hx
   ·exact hH.sr x hx
   ·rw [List.mem_singleton.1 hx, hR.len]; exact h5
theorem hRedo (H : Hm) (d : Dr) (us rs : List (List Cm)) (ws ns : List Dr) (I : Mem) (hN : NeedAt I) (hH : HAbs I H d us rs ws ns) : Ctr Tryz.prog 51 [ptr H.b] I (Hm.hp H) (TurnR H d rs us ns ws true) := by
 obtain ⟨b, D, bnd, uv, rv, up, rp⟩ := H
 have hb1 := hH.b1
 have hb2 := hH.b2
 have hul := hH.ul
 have hrl := hH.rl
 simp only at hb1 hb2 hul hrl
 refine Ctr.intro Tryz.func51 rfl rfl rfl fun E F => ?_
 change WC _ _ _ _ [F, box b 153 [ptr D.b, vi bnd, uv, rv], up, rp, docBox D.b D.A.b D.mb D.segs, mp D.mb D.f D.cnt, _, _, _, _, _] _
 refine jS (jf rfl (jM (jB (j8 999 [] rfl (jT 0 rfl (Val.moveP rfl) (jT 1 rfl (Val.moveP rfl) (jT 2 rfl (jr rfl) (jT 3 rfl (jn rfl) (jT 4 rfl (Val.moveP rfl) (jT 5 rfl (jr rfl) (jT 6 rfl (jn rfl) (j5 7 rfl ?_))))))))))))
 refine WL.callP [1, 2, 1, 1, 1, 1, 1, 1, 1, 1] rfl rfl (hTurn [ptr D.b, vi bnd, uv, rv] 3 2 b bnd D d rs us rv uv rp up _ hN hH.dab hH.good rfl rfl rfl rfl (by decide) (by decide) hH.r hH.u (by omega) (by omega) hb1 (by omega) (fun w1 s e => by
  have h1 := hH.cr
  rw [e] at h1
  obtain ⟨w, vs, s0, t, _, h2, h3, _⟩ := h1.top
  have h4 := hH.sr s (by rw [e]; simp)
  exact ⟨h2.fits, by omega, _, _, h3⟩)) rfl ?_
 rintro _ I1 _ hI1 (⟨rfl, rfl, rfl⟩ | ⟨u1, s, d1, bs, D1, fv, tv, pf, pt, rfl, rfl, hbb, rfl, hD1, hR, hp1, hp2⟩)
 ·change WL _ _ _ _ _ (_ ++ [box b 153 [ptr D.b, vi bnd, uv, rv], rp, up, docBox D.b D.A.b D.mb D.segs, mp D.mb D.f D.cnt, _, _, _, _, _]) _
  refine jW ?_
  refine jC (j9 [] (hI1) rfl (jT 8 rfl (Val.assignI rfl) (j6 (jA (jR ?_)))))
  exact jP [0, 1, 0, 0, 0, 0, 0, 0, 0, 0] (jr1 rfl (jtI rfl)) (.inl ⟨rfl, rfl, rfl⟩)
 ·change WL _ _ _ _ _ (_ ++ [box b 153 [ptr D.b, vi bnd, tv, fv], pf, pt, docBox D1.b D1.A.b D1.mb D1.segs, mp D1.mb D1.f D1.cnt, _, _, _, _, _]) _
  refine jW ?_
  refine jC (j9 [] (hI1) rfl (jT 8 rfl (Val.assignI rfl) (j6 (jA (jR ?_)))))
  refine jP [0, 1, 0, 0, 0, 0, 0, 0, 0, 0] (jr1 rfl (jtI rfl)) ?_
  obtain ⟨w, vs, s0, t, rfl, h2, h3, h4⟩ := hH.cr.top
  obtain ⟨rfl, rfl⟩ := h3.uniq hR
  have h5 := hH.sr s (by simp)
  refine .inr ⟨⟨b, D1, bnd, tv, fv, pt, pf⟩, u1, s, w, vs, t, rfl, rfl, rfl, rfl, rfl, by rw [Hm.hp, Hm.cs, ← hbb], ?_⟩
  rw [if_pos rfl]
  refine ⟨hD1, hR.good.2, hp2, hp1, Chain.push _ hR hH.cu, h4, ?_, ?_, fun x hx => ?_, fun x hx => hH.sr x (List.mem_append_left _ hx), hb1, hb2⟩
  ·rw [keep_len]; exact Nat.min_le_left _ _
  ·rw [List.length_append] at hrl
   show u1.length ≤ bnd
   omega
  ·rcases List.mem_append.1 (keep_mem hx) with hx | hx
   ·exact hH.su x hx
   ·rw [List.mem_singleton.1 hx, hR.len]; exact h5
attribute [local irreducible] WC WL WX WK WA WAK Val Ctr RunRes ResIs Rd At sl box pt Exit.then Exit.inBlock bodyPost Code.wp wpList
def errD (d : Dr) (l : List Cm) : Int := if l.length = 0 then 50 else if 64 < l.length then 36 else errS d l
def DoR (H : Hm) (d : Dr) (l : List Cm) (us rs : List (List Cm)) (ws ns : List Dr) : Value → Mem → List HP → Prop := fun v I' L' => ∃ H' : Hm, H'.b = H.b ∧ H'.bnd = H.bnd ∧ L' = Hm.hp H' ∧ v = vi (errD d l) ∧
 ((errD d l ≠ 0 ∧ HAbs I' H' d us rs ws ns) ∨ (errD d l = 0 ∧ ∃ d' bs, Run d l d' bs ∧ HAbs I' H' d' (keep H.bnd (us ++ [bs])) [] (keep H.bnd (ws ++ [d])) []))
theorem hDo (H : Hm) (d : Dr) (l : List Cm) (v : Value) (us rs : List (List Cm)) (ws ns : List Dr) (I : Mem) (hN : NeedAt I) (hH : HAbs I H d us rs ws ns) (hv : LsAt Cm.rep I l v) (hfit : l.length ≤ 64 → FitsS d l) :
  Ctr Tryz.prog 41 [ptr H.b, v] I (Hm.hp H) (DoR H d l us rs ws ns) := by
 obtain ⟨b, D, bnd, uv, rv, up, rp⟩ := H
 have hb1 := hH.b1
 have hb2 := hH.b2
 have hul := hH.ul
 have hrl := hH.rl
 simp only at hb1 hb2 hul hrl
 obtain ⟨la, lc, rfl⟩ := hv.sl
 refine Ctr.intro Tryz.func41 rfl rfl rfl fun E F => ?_
 change WC _ _ _ _ [F, box b 153 [ptr D.b, vi bnd, uv, rv], up, rp, docBox D.b D.A.b D.mb D.segs, mp D.mb D.f D.cnt, _, _, _, _, _] _
 by_cases h0 : l.length = 0
 ·skip
  refine jS (jf rfl (jM (jB (WC.block (jS (jc rfl (jm (jo rfl) (jw rfl rfl (jg rfl (jM (jF (jS (jf rfl (jM (jR (WX.inRet (jU ?_)))))))))))))))))
  refine jP [0, 0, 0, 0, 0, 0, 0, 0, 0, 0] (jr1 rfl (jtI rfl)) ?_
  have he : errD d l = 50 := by rw [errD, if_pos h0]
  exact ⟨⟨b, D, bnd, uv, rv, up, rp⟩, rfl, rfl, rfl, by rw [he], .inl ⟨by rw [he]; decide, hH⟩⟩
 by_cases h64 : 64 < l.length
 ·skip
  refine jS (jf rfl (jM (jB (WC.block (jS (jc rfl (jm (jo rfl) (jv rfl rfl (jg rfl (jM (jE (jS (jc rfl (jm (jo rfl) (jO rfl rfl (jg rfl (jM (jF (jS (jf rfl (jM (jR (WX.inRet (jU ?_))))))))))))))))))))))))
  refine jP [0, 0, 0, 0, 0, 0, 0, 0, 0, 0] (jr1 rfl (jtI rfl)) ?_
  have he : errD d l = 36 := by rw [errD, if_neg h0, if_pos h64]
  exact ⟨⟨b, D, bnd, uv, rv, up, rp⟩, rfl, rfl, rfl, by rw [he], .inl ⟨by rw [he]; decide, hH⟩⟩
 have hed : errD d l = errS d l := by rw [errD, if_neg h0, if_neg h64]
 refine jS (jf rfl (jM (jB (WC.block (jS (jc rfl (jm (jo rfl) (jv rfl rfl (jg rfl (jM (jE (jS (jc rfl (jm (jo rfl) (jL rfl rfl (jg rfl (jM (jE (jV (WX.inNormal (jK (jd rfl (jm (jr rfl) (jm (jn rfl) (jm (jp 1 rfl rfl rfl) (jc rfl (WL.callP [4, 4, 4, 4, 4, 4, 4] rfl rfl (hPlay D d l _ _ hN hH.dab hH.good hv (hfit (by omega)) (by omega)) rfl ?_)))))))))))))))))))))))))))
 rintro _ I1 _ hI1 ⟨D1, hbb, rfl, (⟨d1, bs, ba, bn, rfl, hD1, hR, hbv⟩ | ⟨he, rfl, hD1⟩)⟩
 case inr =>
  change WL _ _ _ _ _ (_ ++ [docBox D1.b D1.A.b D1.mb D1.segs, mp D1.mb D1.f D1.cnt, _, _, _, _, _]) _
  refine jW ?_
  refine je rfl (jm (Val.extractS rfl rfl) (jm (jq rfl rfl) (jh rfl (jf rfl (jM (jB (jS (ja rfl (jJ rfl rfl (jM (jF (jS (ja rfl (jf rfl (jM (jR (jU ?_)))))))))))))))))
  exact jP [0, 0, 0, 0, 0, 0, 0, 0, 0, 0] (jr1 rfl (jtI rfl)) ⟨⟨b, D1, bnd, uv, rv, up, rp⟩, rfl, rfl, by rw [Hm.hp, Hm.cs, ← hbb], by rw [hed], .inl ⟨by rw [hed]; exact he, ⟨hD1, hH.good, hH.u.mono hI1, hH.r.mono hI1, hH.cu, hH.cr, hul, hrl, hH.su, hH.sr, hb1, hb2⟩⟩⟩
 have he0 := hR.err
 change WL _ _ _ _ _ (_ ++ [docBox D1.b D1.A.b D1.mb D1.segs, mp D1.mb D1.f D1.cnt, _, _, _, _, _]) _
 refine jW ?_
 refine je rfl (jm (Val.extractS rfl rfl) (jm (jq rfl rfl) (jh rfl (jf rfl (jM (jB (jS (ja rfl (jz rfl rfl (jM (jE (jV (jA (jB (j8 999 [] rfl (jT 0 rfl (Val.moveP rfl) (jT 1 rfl (jr rfl) (jT 2 rfl (jn rfl) (jT 3 rfl (Val.moveS rfl) (jT 4 rfl (Val.moveP rfl) (jT 5 rfl (jr rfl) (jT 6 rfl (jn rfl) (j5 7 rfl (jm (jp 1 rfl rfl rfl) (jC (j7 [] rfl (j5 8 rfl (WL.callP [1, 1] rfl rfl (hPush [ptr D.b, vi bnd, uv, rv] 2 b bnd us bs uv _ up _ rfl (hH.u.mono hI1) hbv (by omega) hb1 (by omega)) rfl ?_))))))))))))))))))))))))))))
 rintro _ I2 _ hI2 ⟨rfl, uv', up', rfl, hu'⟩
 change WL _ _ _ _ _ (_ ++ [box b 153 [ptr D.b, vi bnd, uv', rv], up']) _
 refine jW ?_
 refine jC (j7 [] rfl (j6 (jK (jd rfl (jm (jr rfl) (jm (jn rfl) (WL.stS 9 rfl rfl rfl rfl ?_)))))))
 refine jN (jf rfl (jM (jR (WX.conv (fun w h => (h.sl_nil (e := 154) (sz := 1)).sub [1, 9, 9, 0, 1, 1, 1, 1, 1, 1, 1] rfl) ?_))))
 refine jP [0, 0, 0, 0, 0, 0, 0, 0, 0, 0] (jr1 rfl (jtI rfl)) ?_
 have h5 := hR.len
 refine ⟨⟨b, D1, bnd, uv', .slice none 0 0, up', _⟩, rfl, rfl, by rw [Hm.hp, Hm.cs, ← hbb], by rw [hed, he0], .inr ⟨by rw [hed, he0], d1, bs, hR, ⟨hD1, hR.good.2, hu', OwnL.nil _ _ _ _, Chain.push _ hR hH.cu, .nil, ?_, Nat.zero_le _, fun x hx => ?_, (fun x hx => nomatch hx), hb1, hb2⟩⟩⟩
 ·rw [keep_len]; exact Nat.min_le_left _ _
 ·rcases List.mem_append.1 (keep_mem hx) with hx | hx
  ·exact hH.su x hx
  ·rw [List.mem_singleton.1 hx, h5]; omega
end Go.Proofs.YtggcpoleklcmkaaGreatDoor
