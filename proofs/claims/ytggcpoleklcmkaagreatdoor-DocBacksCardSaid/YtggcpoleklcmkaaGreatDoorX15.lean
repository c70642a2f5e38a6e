/-
 Drawings, the plain law: how many segments there are; groups have none.
-/
import Derived.Test.YtggcpoleklcmkaaGreatDoorX14
import Derived.Test.YtggcpoleklcmkaaGreatDoorX2
import Derived.Test.YtggcpoleklcmkaaGreatDoorX3
set_option linter.unusedVariables false
set_option linter.unusedSimpArgs false
namespace Go.Dc
open Go.Sl Go.Ls Go.Tr
def tot (h : Int → Int) : List (Int × Bool) → Int
 | [] => 0
 | p :: l => h p.1 + tot h l
theorem tot_app (h : Int → Int) : ∀ (a b : List (Int × Bool)), tot h (a ++ b) = tot h a + tot h b
 | [], b => by rw [tot]; simp
 | p :: a, b => by rw [List.cons_append, tot, tot, tot_app h a b]; omega
theorem tot_perm (h : Int → Int) {a b : List (Int × Bool)} (hp : a.Perm b) : tot h a = tot h b := by
 induction hp with
 | nil => rfl
 | cons x _ ih => rw [tot, tot, ih]
 | swap x y l => rw [tot, tot, tot, tot]; omega
 | trans _ _ h1 h2 => rw [h1, h2]
theorem tot_congr {h g : Int → Int} : ∀ {l : List (Int × Bool)}, (∀ p ∈ l, h p.1 = g p.1) → tot h l = tot g l
 | [], _ => rfl
 | p :: l, hh => by rw [tot, tot, hh p (.head _), tot_congr fun q hq => hh q (.tail _ hq)]
theorem tot_nonneg {h : Int → Int} : ∀ {l : List (Int × Bool)}, (∀ p ∈ l, 0 ≤ h p.1) → 0 ≤ tot h l
 | [], _ => Int.le_refl _
 | p :: l, hh => by
  rw [tot]
  have := hh p (.head _)
  have := tot_nonneg fun q hq => hh q (List.mem_cons_of_mem p hq)
  omega
theorem tot_up {h : Int → Int} {i v : Int} : ∀ {l : List (Int × Bool)}, (l.map Prod.fst).Nodup → i ∈ l.map Prod.fst → tot (fun k => if k = i then v else h k) l = tot h l + v - h i
 | [], _, hi => by cases hi
 | p :: l, hn, hi => by
  rw [List.map_cons, List.nodup_cons] at hn
  rw [tot, tot]
  by_cases hp : p.1 = i
  ·have : tot (fun k => if k = i then v else h k) l = tot h l := tot_congr fun q hq => if_neg fun e => hn.1 (by rw [hp, ← e]; exact List.mem_map_of_mem hq)
   rw [this, if_pos hp, hp]
   omega
  ·rw [if_neg hp, tot_up hn.2 ((List.mem_cons.1 hi).resolve_left fun e => hp e.symm)]
   omega
def Dr.len (d : Dr) (i : Int) : Int := ((d.at_ i).getD Atr.z).path.length
theorem Dr.len_nn (d : Dr) (i : Int) : 0 ≤ d.len i := Int.natCast_nonneg _
theorem len_of {d d' : Dr} {i : Int} (h : d'.at_ i = d.at_ i) : d'.len i = d.len i := by rw [Dr.len, Dr.len, h]
theorem get_of {d d' : Dr} {i : Int} (h : d'.at_ i = d.at_ i) : d'.get i = d.get i := by rw [Dr.get, Dr.get, h]
structure DInv (d : Dr) : Prop where
 seg : d.segs = tot d.len d.top.gs
 right : ∀ p ∈ d.top.gs, p.1 ≠ 0 → (d.get p.1).check p.2 = 0
 most : d.segs ≤ mostSegs
theorem DInv.nonneg {d : Dr} (h : DInv d) : 0 ≤ d.segs := by rw [h.seg]; exact tot_nonneg fun p _ => d.len_nn p.1
theorem perm_gs {a b c : List (Int × Bool)} (h : ∀ x, a.count x = b.count x + c.count x) : a.Perm (b ++ c) := by
 rw [List.perm_iff_count]
 intro x
 rw [List.count_append, h x]
theorem perm_gs0 {a b : List (Int × Bool)} (h : ∀ x, a.count x = b.count x) : a.Perm b := List.perm_iff_count.2 h
theorem segsOf_ents (at_ : Int → Atr) (n : Nd) : segsOf (ents at_ n) = tot (fun i => ((at_ i).path.length : Int)) n.gs := by
 refine Nd.rec (motive_1 := fun n => segsOf (ents at_ n) = tot (fun i => ((at_ i).path.length : Int)) n.gs) (motive_2 := fun l => segsOf (entss at_ l) = tot (fun i => ((at_ i).path.length : Int)) (Nd.gss l)) ?_ ?_ ?_ n
 ·intro i g ks h
  rw [ents, Nd.gs, tot, ← h]; rfl
 ·rw [entss, Nd.gss]; rfl
 ·intro k ks h1 h2
  rw [entss, Nd.gss, tot_app, ← h1, ← h2]
  have : ∀ a b : List Ent, segsOf (a ++ b) = segsOf a + segsOf b := by
   intro a b
   induction a with
   | nil => show segsOf b = 0 + segsOf b; omega
   | cons x a ih => show (x.atr.path.length : Int) + segsOf (a ++ b) = (x.atr.path.length : Int) + segsOf a + segsOf b; omega
  exact this _ _
theorem tk_gs : ∀ (f : Nat), (∀ (l : List Ent) n r, tk f l = some (n, r) → l.map (fun x => (x.id, x.grp)) = n.gs ++ r.map (fun x => (x.id, x.grp))) ∧ ∀ (k : Nat) (l : List Ent) ns r, tks f k l = some (ns, r) → l.map (fun x => (x.id, x.grp)) = Nd.gss ns ++ r.map (fun x => (x.id, x.grp)) := by
 intro f
 induction f with
 | zero =>
  refine ⟨fun l n r h => ?_, fun k l ns r h => ?_⟩
  ·rw [tk] at h; cases h
  ·cases k with
   | zero => rw [tks] at h; cases h; rw [Nd.gss]; rfl
   | succ k => rw [tks] at h; cases h
 | succ f ih =>
  refine ⟨fun l n r h => ?_, fun k l ns r h => ?_⟩
  ·cases l with
   | nil => rw [tk] at h; cases h
   | cons x l =>
    rw [tk] at h
    split at h
    ·cases h
    ·split at h
     ·cases h
     ·rename_i ks rest he
      cases h
      rw [List.map_cons, ih.2 _ _ _ _ he, Nd.gs]; rfl
  ·cases k with
   | zero => rw [tks] at h; cases h; rw [Nd.gss]; rfl
   | succ k =>
    rw [tks] at h
    split at h
    ·cases h
    ·rename_i n r1 he
     split at h
     ·cases h
     ·rename_i ns' r2 he2
      cases h
      rw [ih.1 _ _ _ he, ih.2 _ _ _ _ he2, Nd.gss, List.append_assoc]
theorem Tk_gs {l : List Ent} {n : Nd} (h : Tk l = some (n, [])) : l.map (fun x => (x.id, x.grp)) = n.gs := by
 have := (tk_gs _).1 _ _ _ h
 simpa using this
theorem putAll_ne : ∀ {l : List Ent} {f : Int → Option Atr} {i : Int}, i ∉ l.map Ent.id → putAll f l i = f i
 | [], f, i, _ => rfl
 | x :: l, f, i, h => by
  rw [List.map_cons, List.mem_cons, not_or] at h
  rw [putAll, putAll_ne h.2, upAt, if_neg h.1]
theorem putAll_at : ∀ {l : List Ent} {f : Int → Option Atr} {x : Ent}, (l.map Ent.id).Nodup → x ∈ l → putAll f l x.id = some x.atr
 | [], _, _, _, h => by cases h
 | y :: l, f, x, hn, hx => by
  rw [List.map_cons, List.nodup_cons] at hn
  rw [putAll]
  rcases List.mem_cons.1 hx with rfl | hx
  ·rw [putAll_ne hn.1, upAt, if_pos rfl]
  ·exact putAll_at hn.2 hx
theorem dropAll_ne : ∀ {l : List Ent} {f : Int → Option Atr} {i : Int}, i ∉ l.map Ent.id → dropAll f l i = f i
 | [], f, i, _ => rfl
 | x :: l, f, i, h => by
  rw [List.map_cons, List.mem_cons, not_or] at h
  rw [dropAll, dropAll_ne h.2, downAt, if_neg h.1]
theorem gs_id {n : Nd} {p : Int × Bool} (h : p ∈ n.gs) : p.1 ∈ n.order := by rw [← Nd.order_gs]; exact List.mem_map_of_mem h
theorem find_gs {n : Nd} (p : Int × Bool) : n.order.Nodup → p ∈ n.gs → ∃ m, Nd.find p.1 n = some m ∧ m.grp = p.2 := by
 refine Nd.rec (motive_1 := fun n => n.order.Nodup → p ∈ n.gs → ∃ m, Nd.find p.1 n = some m ∧ m.grp = p.2) (motive_2 := fun l => (Nd.orders l).Nodup → p ∈ Nd.gss l → ∃ m, Nd.finds p.1 l = some m ∧ m.grp = p.2) ?_ ?_ ?_ n
 ·intro i g ks ih ho hp
  rw [Nd.order, List.nodup_cons] at ho
  rw [Nd.gs] at hp
  rw [Nd.find]
  rcases List.mem_cons.1 hp with rfl | hp
  ·exact ⟨_, if_pos rfl, rfl⟩
  ·have hm : p.1 ∈ Nd.orders ks := by
    have := gs_id (n := .mk i g ks) (p := p) (by rw [Nd.gs]; exact List.mem_cons_of_mem _ hp)
    rw [Nd.order] at this
    rcases List.mem_cons.1 this with e | e
    ·exfalso
     have h2 : ∀ (l : List Nd), p ∈ Nd.gss l → p.1 ∈ Nd.orders l := by
      intro l
      induction l with
      | nil => intro h; rw [Nd.gss] at h; cases h
      | cons k l ih2 =>
       intro h
       rw [Nd.gss] at h
       rw [Nd.orders]
       rcases List.mem_append.1 h with h | h
       ·exact List.mem_append.2 (.inl (gs_id h))
       ·exact List.mem_append.2 (.inr (ih2 h))
     exact ho.1 (by rw [← e]; exact h2 ks hp)
    ·exact e
   rw [if_neg fun e => ho.1 (by rw [e]; exact hm)]
   exact ih ho.2 hp
 ·intro _ hp; rw [Nd.gss] at hp; cases hp
 ·intro k l h1 h2 ho hp
  rw [Nd.orders, List.nodup_append] at ho
  rw [Nd.gss] at hp
  rw [Nd.finds]
  rcases List.mem_append.1 hp with hp | hp
  ·obtain ⟨m, hm, hg⟩ := h1 ho.1 hp
   rw [hm]; exact ⟨m, rfl, hg⟩
  ·obtain ⟨m, hm, hg⟩ := h2 ho.2.1 hp
   cases hk : Nd.find p.1 k with
   | some y =>
    exfalso
    have hq : p.1 ∈ k.order := (Nd.find_some p.1 k).1 (by rw [hk]; rfl)
    have hl : p.1 ∈ Nd.orders l := by
     have h2 : ∀ (l : List Nd), p ∈ Nd.gss l → p.1 ∈ Nd.orders l := by
      intro l
      induction l with
      | nil => intro h; rw [Nd.gss] at h; cases h
      | cons k l ih2 =>
       intro h
       rw [Nd.gss] at h
       rw [Nd.orders]
       rcases List.mem_append.1 h with h | h
       ·exact List.mem_append.2 (.inl (gs_id h))
       ·exact List.mem_append.2 (.inr (ih2 h))
     exact h2 l hp
    exact ho.2.2 _ hq _ hl rfl
   | none => exact ⟨m, hm, hg⟩
theorem firstWrong_all : ∀ {l : List Ent}, firstWrong l = 0 → ∀ x ∈ l, x.atr.check x.grp = 0
 | [], _, _, h => by cases h
 | y :: l, h, x, hx => by
  rw [firstWrong] at h
  split at h
  ·rename_i h1; exact absurd h h1
  ·rename_i h1
   rcases List.mem_cons.1 hx with rfl | hx
   ·exact Decidable.of_not_not h1
   ·exact firstWrong_all h x hx
theorem check_grp {a : Atr} (h : a.check true = 0) : a.path.length = 0 := by
 rw [Atr.check] at h
 split at h
 ·exact absurd h (by decide)
 rename_i h1
 split at h
 ·rename_i h2; exact absurd h h2
 rename_i h2
 split at h
 ·rename_i h3; exact absurd h h3
 split at h
 ·exact absurd h (by decide)
 ·rename_i h4
  have : ¬ 0 < a.path.length := fun e => h4 ⟨rfl, e⟩
  omega
theorem DInv.grp {d : Dr} (h : DInv d) (h0 : d.at_ 0 = none) {p : Int × Bool} (hp : p ∈ d.top.gs) (hg : p.2 = true) : d.len p.1 = 0 := by
 by_cases e : p.1 = 0
 ·rw [e, Dr.len, h0]; rfl
 ·have := h.right p hp e
  rw [hg] at this
  have := check_grp this
  show ((d.get p.1).path.length : Int) = 0
  rw [this]; rfl
section
variable {A B : Ar} {d : Dr} {c : Cm}
theorem inv_add (hi : DInv d) (hA : Abs A d.top) (hB : Abs B (d.add c).1.top) : DInv (d.add c).1 := by
 rw [Dr.add] at hB ⊢
 split at hB
 ·rename_i h; rw [if_pos h]; exact hi
 rename_i hw; rw [if_neg hw]
 split at hB
 ·rename_i h; rw [if_pos h]; exact hi
 rename_i hf; rw [if_neg hf]
 split at hB
 ·rename_i h; rw [if_pos h]; exact hi
 rename_i hm; rw [if_neg hm]
 split at hB
 ·rename_i h; rw [if_pos h]; exact hi
 rename_i he; rw [if_neg he]
 have he := Decidable.of_not_not he
 have hf := firstWrong_all (Decidable.of_not_not hf)
 obtain ⟨n, hn⟩ := (Whole_iff _).1 (Decidable.of_not_not hw)
 have hno := nodeOf_eq hn
 have hids := Tk_order hn
 have hgs := Tk_gs hn
 rw [hno] at hB he ⊢
 simp only [List.map_nil, List.append_nil] at hids
 have hc := Nd.gcount_add hA.od he
 have hco := Nd.count_add hA.od he
 have hod := hB.od
 simp only at hB hod ⊢
 generalize (Nd.add d.top c.parent c.index n).1 = top' at *
 have hperm := perm_gs hc
 have hpo : top'.order.Perm (d.top.order ++ n.order) := by
  rw [List.perm_iff_count]; intro x; rw [List.count_append, hco x]
 have hnd := (hpo.nodup_iff).1 hod
 rw [List.nodup_append] at hnd
 have hids2 : (c.ents.map Ent.id).Nodup := by rw [hids]; exact hnd.2.1
 have hold : ∀ p ∈ d.top.gs, Dr.at_ ⟨top', putAll d.at_ c.ents, d.segs + segsOf c.ents⟩ p.1 = d.at_ p.1 := fun p hp => putAll_ne (by rw [hids]; exact fun h => hnd.2.2 _ (gs_id hp) _ h rfl)
 have hnew : ∀ x ∈ c.ents, Dr.at_ ⟨top', putAll d.at_ c.ents, d.segs + segsOf c.ents⟩ x.id = some x.atr := fun x hx => putAll_at hids2 hx
 generalize hd' : (⟨top', putAll d.at_ c.ents, d.segs + segsOf c.ents⟩ : Dr) = d' at *
 have ht : d'.top = top' := by rw [← hd']
 have hs : d'.segs = d.segs + segsOf c.ents := by rw [← hd']
 have hlenN : ∀ x ∈ c.ents, d'.len x.id = x.atr.path.length := fun x hx => by rw [Dr.len, hnew x hx]; rfl
 refine ⟨?_, fun p hp hp0 => ?_, by rw [hs]; omega⟩
 ·rw [hs, ht, tot_perm _ hperm, tot_app, tot_congr fun p hp => len_of (hold p hp), ← hi.seg, ← hgs]
  congr 1
  have : ∀ l : List Ent, (∀ x ∈ l, d'.len x.id = x.atr.path.length) → segsOf l = tot d'.len (l.map fun x => (x.id, x.grp)) := by
   intro l
   induction l with
   | nil => intro _; rfl
   | cons x l ih =>
    intro h
    rw [List.map_cons, tot, ← ih fun y hy => h y (List.mem_cons_of_mem _ hy)]
    simp only [h x (.head _)]
    rfl
  exact this _ hlenN
 ·rw [ht] at hp
  rcases List.mem_append.1 (hperm.mem_iff.1 hp) with hp | hp
  ·rw [get_of (hold p hp)]; exact hi.right p hp hp0
  ·rw [← hgs] at hp
   obtain ⟨x, hx, rfl⟩ := List.mem_map.1 hp
   simp only
   rw [Dr.get, hnew x hx]
   exact hf x hx
theorem inv_remove (hi : DInv d) (hA : Abs A d.top) : DInv (d.remove c).1 := by
 rw [Dr.remove]
 simp only
 split
 ·exact hi
 ·rename_i h0
  have h0 := Decidable.of_not_not h0
  have hg := hA.gcount_rem h0
  obtain ⟨o1, o2, o3, o4, o5⟩ := hA.rem_nodup h0
  have hp := perm_gs (fun x => (hg x).symm)
  have hids := ents_ids d.get (Nd.remove d.top c.id).2.1
  have hs := segsOf_ents d.get (Nd.remove d.top c.id).2.1
  have hnn := segsOf_nonneg (ents d.get (Nd.remove d.top c.id).2.1)
  generalize (Nd.remove d.top c.id).1 = t1 at *
  generalize (Nd.remove d.top c.id).2.1 = n at *
  have hl : ∀ p ∈ t1.gs, Dr.at_ ⟨t1, dropAll d.at_ (ents d.get n), d.segs - segsOf (ents d.get n)⟩ p.1 = d.at_ p.1 := fun p hp =>
   dropAll_ne (show p.1 ∉ (ents d.get n).map Ent.id by rw [hids]; exact o3 _ (gs_id hp))
  refine ⟨?_, fun p hp2 hp0 => ?_, ?_⟩
  ·show d.segs - segsOf _ = tot _ t1.gs
   have h3 : segsOf (ents d.get n) = tot d.len n.gs := hs
   rw [tot_congr fun p hp => len_of (hl p hp), hi.seg, tot_perm _ hp, tot_app, h3]
   omega
  ·rw [get_of (hl p hp2)]; exact hi.right p (hp.mem_iff.2 (List.mem_append.2 (.inl hp2))) hp0
  ·have := hi.most
   show d.segs - segsOf _ ≤ _
   omega
theorem inv_move (hi : DInv d) (hA : Abs A d.top) : DInv (d.move c).1 := by
 rw [Dr.move]
 simp only
 split
 ·exact hi
 ·rename_i h0
  have hp := perm_gs0 (hA.gcount_move (Decidable.of_not_not h0))
  refine ⟨?_, fun p hp2 hp0 => hi.right p (hp.mem_iff.1 hp2) hp0, hi.most⟩
  show d.segs = tot _ _
  rw [tot_perm _ hp]; exact hi.seg
theorem inv_wrap (hi : DInv d) (hA : Abs A d.top) (hB : Abs B (d.wrap c).1.top) : DInv (d.wrap c).1 := by
 rw [Dr.wrap] at hB ⊢
 split at hB
 ·rename_i h; rw [if_pos h]; exact hi
 rename_i hc; rw [if_neg hc]
 have hc := Decidable.of_not_not hc
 simp only at hB ⊢
 split at hB
 ·rename_i h; rw [if_pos h]; exact hi
 rename_i h0; rw [if_neg h0]
 have h0 := Decidable.of_not_not h0
 have hg := Nd.gcount_wrap hA.od h0
 have hod := hB.od
 have hcn := Nd.count_wrap hA.od h0
 simp only at hod ⊢
 generalize (Nd.wrap d.top c.id c.parent c.index c.count).1 = t1 at *
 have hp : t1.gs.Perm ((c.id, true) :: d.top.gs) := List.perm_iff_count.2 fun x => by rw [List.count_cons, hg x]; simp only [beq_iff_eq]
 have hni : c.id ∉ d.top.order := fun h => by
  have h1 := hcn c.id
  rw [if_pos rfl] at h1
  have h2 := nodup_count hod c.id
  have h3 := mem_count.1 h
  omega
 have hl : ∀ p ∈ d.top.gs, Dr.at_ ⟨t1, upAt d.at_ c.id c.atr, d.segs⟩ p.1 = d.at_ p.1 := fun p hp =>
  if_neg (show ¬ p.1 = c.id from fun e => hni (by rw [← e]; exact gs_id hp))
 have h1 : Dr.at_ ⟨t1, upAt d.at_ c.id c.atr, d.segs⟩ c.id = some c.atr := if_pos rfl
 have h2 : Dr.len ⟨t1, upAt d.at_ c.id c.atr, d.segs⟩ c.id = 0 := by
  rw [Dr.len, h1, Option.getD_some, check_grp hc]; rfl
 refine ⟨?_, fun p hp2 hp0 => ?_, hi.most⟩
 ·show d.segs = _
  rw [tot_perm _ hp, tot, tot_congr fun p hp => len_of (hl p hp), ← hi.seg]
  simp only [h2]
  omega
 ·rcases List.mem_cons.1 (hp.mem_iff.1 hp2) with rfl | hp2
  ·simp only
   rw [Dr.get, h1]; exact hc
  ·rw [get_of (hl p hp2)]; exact hi.right p hp2 hp0
theorem inv_unwrap (hi : DInv d) (hA : Abs A d.top) (h00 : d.at_ 0 = none) : DInv (d.unwrap c).1 := by
 rw [Dr.unwrap]
 simp only
 split
 ·exact hi
 ·rename_i h0
  have h0 := Decidable.of_not_not h0
  have hg := hA.gcount_unwrap h0
  have hcn := hA.count_unwrap h0
  generalize (Nd.unwrap d.top c.id).1 = t1 at *
  have hp : d.top.gs.Perm ((c.id, true) :: t1.gs) := List.perm_iff_count.2 fun x => by rw [List.count_cons, ← hg x]; simp only [beq_iff_eq]
  have hni : c.id ∉ t1.order := fun h => by
   have h1 := hcn c.id
   rw [if_pos rfl] at h1
   have h2 := nodup_count hA.od c.id
   have h3 := mem_count.1 h
   omega
  have hl : ∀ p ∈ t1.gs, Dr.at_ ⟨t1, downAt d.at_ c.id, d.segs⟩ p.1 = d.at_ p.1 := fun p hp =>
   if_neg (show ¬ p.1 = c.id from fun e => hni (by rw [← e]; exact gs_id hp))
  have h1 : d.len c.id = 0 := hi.grp h00 (p := (c.id, true)) (hp.mem_iff.2 (.head _)) rfl
  refine ⟨?_, fun p hp2 hp0 => ?_, hi.most⟩
  ·show d.segs = _
   rw [tot_congr fun p hp => len_of (hl p hp), hi.seg, tot_perm _ hp, tot, h1]
   omega
  ·rw [get_of (hl p hp2)]; exact hi.right p (hp.mem_iff.2 (.tail _ hp2)) hp0
theorem inv_set (hi : DInv d) (hA : Abs A d.top) (hdom : ∀ i, (d.at_ i).isSome = true ↔ i ≠ 0 ∧ i ∈ d.top.order) (h6 : 6 ≤ c.kind) : DInv (d.set c).1 := by
 rw [Dr.set]
 split
 ·exact hi
 rename_i h0
 split
 ·exact hi
 rename_i a ha
 split
 ·exact hi
 rename_i hk
 split
 ·exact hi
 rename_i hc
 split
 ·exact hi
 rename_i hm
 have hin := ((hdom c.id).1 (by rw [ha]; rfl)).2
 have hda : d.len c.id = a.path.length := by rw [Dr.len, ha]; rfl
 have hga : d.get c.id = a := by rw [Dr.get, ha]; rfl
 have hn : (d.top.gs.map Prod.fst).Nodup := by rw [Nd.order_gs]; exact hA.od
 have hlen : Dr.len ⟨d.top, upAt d.at_ c.id (change a c).1, d.segs + (change a c).1.path.length - a.path.length⟩ = fun k => if k = c.id then ((change a c).1.path.length : Int) else d.len k := by
  funext k
  rw [Dr.len, Dr.len]
  simp only [upAt]
  split <;> rfl
 refine ⟨?_, fun p hp hp0 => ?_, by show d.segs + _ - _ ≤ _; omega⟩
 ·show d.segs + _ - _ = tot _ d.top.gs
  rw [hlen, tot_up hn (by rw [Nd.order_gs]; exact hin), ← hi.seg, hda]
 ·have hr := hi.right p hp hp0
  by_cases e : p.1 = c.id
  ·rw [e, hga] at hr
   have h1 : Dr.get ⟨d.top, upAt d.at_ c.id (change a c).1, d.segs + (change a c).1.path.length - a.path.length⟩ p.1 = (change a c).1 := by
    rw [Dr.get]; simp only [upAt, if_pos e]; rfl
   rw [h1]
   refine change_right hr (fun h8 => ?_) (Decidable.of_not_not hc) h6
   cases hg : p.2 with
   | false => rfl
   | true =>
    exact absurd ⟨h8, by
     obtain ⟨m, hm, hmg⟩ := find_gs p hA.od hp
     rw [← e, hm]
     show m.grp = true
     rw [hmg, hg]⟩ hk
  ·rw [get_of (d := d) (show upAt d.at_ c.id (change a c).1 p.1 = d.at_ p.1 from if_neg e)]
   exact hr
theorem inv_apply (hi : DInv d) (hA : Abs A d.top) (hdom : ∀ i, (d.at_ i).isSome = true ↔ i ≠ 0 ∧ i ∈ d.top.order) (hB : Abs B (d.apply c).1.top) : DInv (d.apply c).1 := by
 rw [Dr.apply] at hB ⊢
 by_cases k1 : c.kind = 1
 ·rw [if_pos k1] at hB ⊢; exact inv_add hi hA hB
 rw [if_neg k1] at hB ⊢
 by_cases k2 : c.kind = 2
 ·rw [if_pos k2]; exact inv_remove hi hA
 rw [if_neg k2] at hB ⊢
 by_cases k3 : c.kind = 3
 ·rw [if_pos k3]; exact inv_move hi hA
 rw [if_neg k3] at hB ⊢
 by_cases k4 : c.kind = 4
 ·rw [if_pos k4] at hB ⊢; exact inv_wrap hi hA hB
 rw [if_neg k4] at hB ⊢
 by_cases k5 : c.kind = 5
 ·rw [if_pos k5]
  exact inv_unwrap hi hA (by
   cases h : d.at_ 0 with
   | none => rfl
   | some a => exact absurd rfl ((hdom 0).1 (by rw [h]; rfl)).1)
 rw [if_neg k5] at hB ⊢
 by_cases k6 : 6 ≤ c.kind ∧ c.kind ≤ 12
 ·rw [if_pos k6]; exact inv_set hi hA hdom k6.1
 ·rw [if_neg k6]; exact hi
theorem set_top : (d.set c).1.top = d.top := by
 rw [Dr.set]
 repeat' split
 all_goals rfl
theorem apply_step : Nd.Step1 d.top (d.apply c).1.top := by
 rw [Dr.apply]
 by_cases k1 : c.kind = 1
 ·rw [if_pos k1, Dr.add]
  repeat' split
  all_goals first | exact .inl rfl | exact .inr (.inl ⟨_, _, _, rfl⟩)
 rw [if_neg k1]
 by_cases k2 : c.kind = 2
 ·rw [if_pos k2, Dr.remove]
  simp only
  split
  ·exact .inl rfl
  ·exact .inr (.inr (.inl ⟨_, rfl⟩))
 rw [if_neg k2]
 by_cases k3 : c.kind = 3
 ·rw [if_pos k3, Dr.move]
  simp only
  split
  ·exact .inl rfl
  ·exact .inr (.inr (.inr (.inl ⟨_, _, _, rfl⟩)))
 rw [if_neg k3]
 by_cases k4 : c.kind = 4
 ·rw [if_pos k4, Dr.wrap]
  simp only
  repeat' split
  all_goals first | exact .inl rfl | exact .inr (.inr (.inr (.inr (.inl ⟨_, _, _, _, rfl⟩))))
 rw [if_neg k4]
 by_cases k5 : c.kind = 5
 ·rw [if_pos k5, Dr.unwrap]
  simp only
  split
  ·exact .inl rfl
  ·exact .inr (.inr (.inr (.inr (.inr ⟨_, rfl⟩))))
 rw [if_neg k5]
 by_cases k6 : 6 ≤ c.kind ∧ c.kind ≤ 12
 ·rw [if_pos k6, set_top]; exact .inl rfl
 ·rw [if_neg k6]; exact .inl rfl
structure Fit (d : Dr) : Prop where
 inv : DInv d
 good : Nd.Good d.top
theorem Fit.apply (h : Fit d) (hA : Abs A d.top) (hdom : ∀ i, (d.at_ i).isSome = true ↔ i ≠ 0 ∧ i ∈ d.top.order) (hB : Abs B (d.apply c).1.top) : Fit (d.apply c).1 :=
 ⟨inv_apply h.inv hA hdom hB, h.good.step hA apply_step⟩
theorem Fit.new : Fit Dr.new := ⟨⟨rfl, fun p hp h => by
  have hp : p ∈ [((0 : Int), true)] := hp
  exact absurd (by rw [List.mem_singleton.1 hp]) h, by decide⟩, Nd.Rch.start.good⟩
theorem checked_le {l : List Sg} : (checked l).1.length ≤ l.length := by
 rw [checked]
 split
 ·exact Nat.zero_le _
 ·exact Nat.le_refl _
theorem change_le {a : Atr} (h : c.small) : (change a c).1.path.length ≤ a.path.length + 30 := by
 have hp : c.atr.path.length ≤ 30 := h.2.1.1
 rw [change]
 by_cases k : c.kind = 6
 ·rw [if_pos k]; show a.path.length ≤ _; omega
 rw [if_neg k]
 by_cases k : c.kind = 7
 ·rw [if_pos k]; show a.path.length ≤ _; omega
 rw [if_neg k]
 by_cases k : c.kind = 8
 ·rw [if_pos k]; show c.atr.path.length ≤ _; omega
 rw [if_neg k]
 by_cases k : c.kind = 9
 ·rw [if_pos k]
  show (pathInsert a.path c.i c.seg).1.length ≤ _
  rw [pathInsert]
  split
  ·exact Nat.zero_le _
  split
  ·exact Nat.zero_le _
  rename_i h2
  have := checked_le (l := a.path.take c.i.toNat ++ c.seg :: a.path.drop c.i.toNat)
  simp only [List.length_append, List.length_cons, List.length_take, List.length_drop] at this
  omega
 rw [if_neg k]
 by_cases k : c.kind = 10
 ·rw [if_pos k]
  show (pathDelete a.path c.i).1.length ≤ _
  rw [pathDelete]
  split
  ·exact Nat.zero_le _
  have := checked_le (l := a.path.take c.i.toNat ++ a.path.drop (c.i.toNat + 1))
  simp only [List.length_append, List.length_cons, List.length_take, List.length_drop] at this
  omega
 rw [if_neg k]
 by_cases k : c.kind = 11
 ·rw [if_pos k]
  show (pathPut a.path c.i c.k c.point).1.length ≤ _
  rw [pathPut]
  split
  ·exact Nat.zero_le _
  split
  ·exact Nat.zero_le _
  have := checked_le (l := a.path.set c.i.toNat ((sgAt a.path c.i).setPoint c.k.toNat c.point))
  simp only [List.length_set] at this
  omega
 rw [if_neg k]
 show (pathSplit a.path c.i).1.length ≤ _
 rw [pathSplit]
 split
 ·exact Nat.zero_le _
 split
 ·exact Nat.zero_le _
 split
 ·exact Nat.zero_le _
 simp only [List.length_append, List.length_cons, List.length_take, List.length_drop]
 omega
theorem small_segs (h : c.small) : segsOf c.ents ≤ 1200 := by
 have h1 := segsOf_le (m := 30) (l := c.ents) fun x hx => (h.2.2 x hx).1
 have h2 := h.1
 have : (c.ents.length : Int) * (30 : Nat) ≤ 40 * 30 := by
  have : (c.ents.length : Int) ≤ 40 := by omega
  omega
 omega
theorem apply_segs (h : c.small) : (d.apply c).1.segs ≤ d.segs + 1200 := by
 have hs := small_segs h
 rw [Dr.apply]
 by_cases k1 : c.kind = 1
 ·rw [if_pos k1, Dr.add]
  repeat' split
  all_goals first | (show d.segs ≤ _; omega) | (show d.segs + segsOf _ ≤ _; omega)
 rw [if_neg k1]
 by_cases k2 : c.kind = 2
 ·rw [if_pos k2, Dr.remove]
  simp only
  split
  ·show d.segs ≤ _; omega
  ·have := segsOf_nonneg (ents d.get (Nd.remove d.top c.id).2.1)
   show d.segs - _ ≤ _; omega
 rw [if_neg k2]
 by_cases k3 : c.kind = 3
 ·rw [if_pos k3, Dr.move]
  simp only
  split <;> (show d.segs ≤ _; omega)
 rw [if_neg k3]
 by_cases k4 : c.kind = 4
 ·rw [if_pos k4, Dr.wrap]
  simp only
  repeat' split
  all_goals (show d.segs ≤ _; omega)
 rw [if_neg k4]
 by_cases k5 : c.kind = 5
 ·rw [if_pos k5, Dr.unwrap]
  simp only
  split <;> (show d.segs ≤ _; omega)
 rw [if_neg k5]
 by_cases k6 : 6 ≤ c.kind ∧ c.kind ≤ 12
 ·rw [if_pos k6, Dr.set]
  split
  ·show d.segs ≤ _; omega
  split
  ·show d.segs ≤ _; omega
  rename_i a ha
  have := change_le (a := a) h
  repeat' split
  all_goals first | (show d.segs ≤ _; omega) | (show d.segs + _ - _ ≤ _; omega)
 ·rw [if_neg k6]; show d.segs ≤ _; omega
end
end Go.Dc

/-
 Drawings, the law's model: has a drawing just what the model has? -- KS14
-/

namespace Go.Dc
open Go.Sl Go.Ls Go.Tr
def Agr (at_ : Int → Option Atr) (d : Dr) : Prop := ∀ i ∈ d.top.order, i ≠ 0 → at_ i = d.at_ i
theorem entss_re (at_ : Int → Atr) (l : List Nd) : (entss at_ l).map Ent.re = lsts l := by
 have h := ents_re at_ (.mk 0 false l)
 rw [ents_eq, lst_eq] at h
 simp only [List.map_cons] at h
 injection h
theorem entries_eq (d : Dr) : d.entries = entss d.get d.top.kids := by rw [Dr.entries, ents_eq]; rfl
theorem entries_atr {d : Dr} {x : Ent} (h : x ∈ d.entries) : x ∈ ents d.get d.top := List.mem_of_mem_tail h
theorem entries_id {A : Ar} {d : Dr} (hA : Abs A d.top) {x : Ent} (h : x ∈ d.entries) : x.id ∈ d.top.order ∧ x.id ≠ 0 := by
 have h1 : x.id ∈ Nd.orders d.top.kids := by
  have hi := ents_ids d.get d.top
  rw [ents_eq, Nd.order_eq, List.map_cons] at hi
  injection hi with _ hi
  rw [← hi, ← entries_eq]
  exact List.mem_map_of_mem h
 refine ⟨Nd.orders_kids h1, fun e => ?_⟩
 have ho := hA.od
 rw [Nd.order_eq, List.nodup_cons] at ho
 rw [e, ← hA.id0] at h1
 exact ho.1 h1
theorem entries_segs {A : Ar} {d : Dr} (hi : DInv d) (hA : Abs A d.top) (h0 : d.at_ 0 = none) : segsOf d.entries = d.segs := by
 have h1 := segsOf_ents d.get d.top
 rw [ents_eq] at h1
 have h2 : (d.get d.top.id).path.length = 0 := by rw [hA.id0, Dr.get, h0]; rfl
 have h3 : ((d.get d.top.id).path.length : Int) + segsOf (entss d.get d.top.kids) = tot (fun i => ((d.get i).path.length : Int)) d.top.gs := h1
 rw [h2] at h3
 rw [entries_eq, hi.seg]
 have h4 : tot (fun i => ((d.get i).path.length : Int)) d.top.gs = tot d.len d.top.gs := rfl
 rw [← h4, ← h3]
 simp
end Go.Dc
namespace Go.Proofs.YtggcpoleklcmkaaGreatDoor
open Go.Sl Go.Ls Go.Tr Go.Dc
set_option maxRecDepth 100000
set_option maxHeartbeats 4000000
attribute [local irreducible] WC WL WX WK WA WAK Val Ctr RunRes ResIs Rd At sl box pt Exit.then Exit.inBlock bodyPost Code.wp wpList
theorem mIs (D : Dm) (d : Dr) (I : Mem) (hD : DAbs I D d) (hi : DInv d) (kv : Value) (at_ : Int → Option Atr) (f : Int → Option Value) (g mb cnt : Nat) (hkv : LsAt Nd.Rp I d.top.kids kv) (hat : AtRep I at_ f) (hag : Agr at_ d) :
  Ctr Tryz.prog 25 [ptr g, ptr D.b] I (mbox g mb d.top kv :: mp mb f cnt :: D.hp) (KeepR (mbox g mb d.top kv :: mp mb f cnt :: D.hp) fun v _ => v = .bool true) := by
 have hsz := hD.abs.size_le
 have hpos := d.top.size_pos
 have hit : I64 d.top.id := by rw [hD.abs.id0]; exact ⟨by decide, by decide⟩
 have hkv0 := hkv
 have h00 : d.at_ 0 = none := by
  cases h : d.at_ 0 with
  | none => rfl
  | some a => exact absurd rfl ((hD.dom 0).1 (by rw [h]; rfl)).1
 have hseg := entries_segs hi hD.abs h00
 have hll := lst_len d.top
 have hrr : d.entries.map Ent.re = lsts d.top.kids := by rw [entries_eq]; exact entss_re _ _
 have hell : d.entries.length = d.top.size - 1 := by
  rw [Dr.entries, List.length_tail, ents_len]
 have hlim : ∀ x ∈ d.entries, x.atr.path.length ≤ 1000000 := fun x hx => by
  rw [ents_atr (entries_atr hx)]
  show ((d.at_ x.id).getD Atr.z).path.length ≤ _
  cases h : d.at_ x.id with
  | none => exact Nat.zero_le _
  | some a => exact (hD.lim _ _ h).1
 obtain ⟨ka, kc, rfl⟩ := hkv.sl
 refine Ctr.intro Tryz.func25 rfl rfl rfl fun E F => ?_
 refine jS (jg rfl (jN (jd rfl (jm (jr rfl) (jm (jn rfl) (jm (jt 1 rfl rfl rfl) (WL.callR [] rfl rfl rfl (list_ctr _ d.top (Nat.le_refl _) _ _ (by omega) hkv0 hit) rfl ?_)))))))
 rintro v1 I1 hI1 hv1
 obtain ⟨b1, o1, p1, cs1, he1, _, _⟩ := hv1.get 0 (by omega)
 subst he1
 have hw1 := hv1.drop2 1 (by omega)
 have hcp := hv1.cap
 refine jm (Val.sliceFrom2 (m := 1) rfl rfl (by omega) (by omega)) ?_
 have hdl : (lst d.top).drop 1 = lsts d.top.kids := by rw [lst_eq]; rfl
 rw [hdl] at hw1
 have hw10 := hw1
 obtain ⟨wa, wc, hw1e⟩ := hw1.sl
 rw [hw1e] at hw10 ⊢
 refine jh rfl (jN (jd rfl (WL.callR [3, 3, 3, 3, 3, 3, 3] rfl rfl rfl (dEntries D d _ (hD.mono hI1)) rfl ?_)))
 rintro v2 I2 hI2 hv2
 have hv20 := hv2
 obtain ⟨ea, ec, rfl⟩ := hv2.sl
 have hlen : (lsts d.top.kids).length = d.entries.length := by rw [← hrr, List.length_map]
 rw [hlen] at hw10 ⊢
 refine jh rfl (jM (jB (jS (jc rfl (jm (jo rfl) (jc rfl (jm (jo rfl) (jz rfl rfl (jM (jE (jV (jK (jf rfl (jM (jB (jS (jc rfl (WL.callR [] rfl rfl rfl (refs_ctr d.entries _ _ hv20 (by omega)) rfl ?_))))))))))))))))))
 rintro v3 I3 hI3 hv3
 rw [hrr] at hv3
 have hv30 := hv3
 obtain ⟨ra, rc, rfl⟩ := hv3.sl
 rw [hlen] at hv30 ⊢
 have hJ2 := hI1.trans hI2
 have hJ3 := hJ2.trans hI3
 refine jm (jo rfl) (ja rfl (jM (WC.block ?_)))
 refine WC.loop (fun n ρ' I' L' => ∃ k : Nat, n = d.entries.length - k ∧ k ≤ d.entries.length ∧ I3.le I' ∧ ρ' 0 = ptr g ∧ ρ' 1 = ptr D.b ∧ ρ' 5 = .slice wa d.entries.length wc ∧ ρ' 6 = .slice ea d.entries.length ec ∧ ρ' 7 = vi (segsOf (d.entries.take k)) ∧ ρ' 26 = .slice ra d.entries.length rc ∧ ρ' 27 = vi d.entries.length ∧ ρ' 28 = vi k ∧
   L' = F :: mbox g mb d.top (.slice ka d.top.kids.length kc) :: mp mb f cnt :: D.hp)
  d.entries.length ⟨0, rfl, by omega, Mem.le.refl _, rfl, rfl, rfl, rfl, rfl, rfl, rfl, rfl, rfl⟩ ?_
 rintro n ρ' I4 L' ⟨k, rfl, hk, hI4, r0, r1, r5, r6, r7, r26, r27, r28, rfl⟩
 rw [← upd_self r28, ← upd_self r27, ← upd_self r26, ← upd_self r7, ← upd_self r6, ← upd_self r5, ← upd_self r1, ← upd_self r0]
 clear r28 r27 r26 r7 r6 r5 r1 r0
 have hJ4 := hJ3.trans hI4
 by_cases hkn : k < d.entries.length
 ·obtain ⟨b5, off5, cap5, cs5, he5, ⟨t5, u5, d5, q5, rfl, hx⟩, hA5⟩ := (hv20.mono (hI3.trans hI4)).get k hkn
  cases he5
  have hwk := (hw10.mono (hI2.trans (hI3.trans hI4))).get k (by rw [hlen]; exact hkn)
  have hrk := (hv30.mono hI4).get k (by rw [hlen]; exact hkn)
  have hge : ∀ (h : k < (lsts d.top.kids).length), (lsts d.top.kids)[k] = (d.entries[k]).re := fun h => by
   simp only [← hrr, List.getElem_map]
  rw [hge] at hwk hrk
  obtain ⟨b6, off6, cap6, cs6, he6, ⟨rfl, hx6, hx7⟩, hA6⟩ := hwk
  injection he6 with h61 _ h62
  subst h61; subst h62
  obtain ⟨b7, off7, cap7, cs7, he7, ⟨rfl, hx8, hx9⟩, hA7⟩ := hrk
  injection he7 with h71 _ h72
  subst h71; subst h72
  have hmem := List.getElem_mem hkn
  obtain ⟨hid, hid0⟩ := entries_id hD.abs hmem
  have hxat := ents_atr (entries_atr hmem)
  have htk : segsOf (d.entries.take (k + 1)) = segsOf (d.entries.take k) + (d.entries[k]).atr.path.length := by rw [List.take_succ_eq_append_getElem hkn, segsOf_snoc]
  have hb1 := segsOf_le (m := 1000000) (l := d.entries.take k) fun x hx => hlim x (List.mem_of_mem_take hx)
  have hb0 := segsOf_nonneg (d.entries.take k)
  have hb2 := hlim _ hmem
  rw [List.length_take, Nat.min_eq_left (by omega)] at hb1
  generalize hy : d.entries[k] = y at *
  obtain ⟨ta, ua, da, qa, hv, haa⟩ := (hat.mono hJ4).get y.id
  have hgt : (at_ y.id).getD Atr.z = y.atr := by rw [hag _ hid hid0, hxat]; rfl
  rw [hgt] at haa hv
  have hgs : (d.at_ y.id).isSome = true := (hD.dom y.id).2 ⟨hid0, hid⟩
  have hx0 := hx
  have haa0 := haa
  obtain ⟨z1, w1, z2, w2, z3, w3, z4, w4, rfl, rfl, rfl, rfl⟩ := hx.sl
  obtain ⟨a1, c1, a2, c2, a3, c3, a4, c4, rfl, rfl, rfl, rfl⟩ := haa.sl
  refine jS (jy rfl rfl (jM (jB (jF (jV (jA (jB (WC.block (jS (ja rfl (jm (jZ rfl rfl) (jm (Val.loadI rfl (by assumption) rfl) ?_))))))))))))
  refine WL.alloc rfl (fun _ => ?_)
  refine jW ?_
  refine jf rfl (WL.stA 10 rfl rfl rfl rfl ?_)
  refine jN (jd rfl (jm (jn rfl) (jm (jp 10 rfl rfl rfl) (WL.callR [3, 3] rfl rfl rfl (dGet d.at_ D.f D.b D.A.b D.mb D.cnt D.segs y.id _ (hD.rep.mono hJ4) hD.lim) rfl ?_))))
  rintro _ I5 hI5 ⟨_, rfl, ⟨s1, s2, s3, s4, rfl, hsa⟩⟩
  rw [show (d.at_ y.id).getD Atr.z = y.atr from hxat.symm] at hsa ⊢
  rw [hgs]
  have hsa0 := hsa
  obtain ⟨m1, n1, m2, n2, m3, n3, m4, n4, rfl, rfl, rfl, rfl⟩ := hsa.sl
  refine je rfl (jm (Val.extractA rfl rfl) (jm (Val.extractB rfl rfl) (WL.alloc rfl (fun _ => ?_))))
  refine jW ?_
  refine WL.stA 11 rfl rfl rfl rfl ?_
  refine jg rfl (jM (jB (jB ?_)))
  have hA5' := hA5.mono hI5
  have hA6' := hA6.mono hI5
  have hJ5 := hJ4.trans hI5
  have hA53 : At I5 b5 (off5 + (k : Int).toNat * 37 + 3) (Atr.cs y.atr (.slice z1 y.atr.sty.fill.stops.length w1) (.slice z2 y.atr.sty.pen.stops.length w2) (.slice z3 y.atr.sty.dash.length w3) (.slice z4 y.atr.path.length w4)) := At.sub 34 hA5' rfl
  have haa5 := haa0.mono hI5
  have hxa5 := hx0.atr.mono hI5
  refine j8 999 I5 [1, 1, 8, 8] rfl (jT 0 [1, 1, 8, 8] rfl rfl (jt 2 rfl rfl rfl) (jT 1 [1, 1, 8, 8] rfl rfl (Val.moveS rfl) (jT 2 [1, 1, 8, 8] rfl rfl (Val.moveI rfl) (jT 3 [1, 1, 8, 8] rfl rfl (jZ rfl rfl) (jT 4 [1, 1, 8, 8] rfl rfl (Val.loadI rfl (by assumption) rfl) ?_)))))
  refine jT 5 [1, 1, 8, 8] rfl rfl (Val.neqSame rfl rfl rfl) ?_
  refine jT 6 [1, 1, 8, 8] rfl rfl (Val.moveB rfl) (jT 7 [1, 1, 8, 8] rfl rfl (Val.moveS rfl) (jT 8 [1, 1, 8, 8] rfl rfl (Val.moveI rfl) (jT 9 [1, 1, 8, 8] rfl rfl (jZ rfl rfl) (jT 10 [1, 1, 8, 8] rfl rfl (jn rfl) (jT 11 [1, 1, 8, 8] rfl rfl (Val.loadI rfl (by assumption) rfl) ?_)))))
  refine jT 12 [1, 1, 8, 8] rfl rfl (Val.moveP rfl) (jT 13 [1, 1, 8, 8] rfl rfl (jr rfl) (jT 14 [1, 1, 8, 8] rfl rfl (jn rfl) (jT 15 [1, 1, 8, 8] rfl rfl (jp 0 rfl rfl rfl) (jT 16 [1, 1, 8, 8] rfl rfl (jn rfl) (jT 17 [1, 1, 8, 8] rfl rfl (jp 2 rfl rfl rfl) (jT 18 [1, 1, 8, 8] rfl rfl (Val.lookup1v 1 hv rfl rfl rfl) ?_))))))
  refine j5 19 rfl (jG ?_)
  refine WL.callE rfl rfl (eqAtr y.atr y.atr _ _ _ _ _ _ _ _ _ hxa5 haa5) rfl (fun h => ?_) (fun h => absurd rfl h)
  refine jC (j7 [1, 1, 8, 8] rfl (jT 20 [1, 1, 8, 8] rfl rfl (Val.not rfl) (jT 21 [1, 1, 8, 8] rfl rfl (Val.pick rfl) (jT 22 [1, 1, 8, 8] rfl rfl (Val.moveB rfl) (jT 23 [1, 1, 8, 8] rfl rfl (Val.moveB rfl) (jT 24 [1, 1, 8, 8] rfl rfl (Val.not rfl) (jT 25 [1, 1, 8, 8] rfl rfl (Val.pick rfl) (jT 26 [1, 1, 8, 8] rfl rfl (Val.moveB rfl) (jT 27 [1, 1, 8, 8] rfl rfl (jt 3 rfl rfl rfl) (jT 28 [1, 1, 8, 8] rfl rfl (Val.moveS rfl) (jT 29 [1, 1, 8, 8] rfl rfl (Val.moveI rfl) (jT 30 [1, 1, 8, 8] rfl rfl (jZ rfl rfl) (jT 31 [1, 1, 8, 8] rfl rfl (jn rfl) (jT 32 [1, 1, 8, 8] rfl rfl (Val.loadI rfl (by assumption) rfl) ?_))))))))))))))
  refine j5 33 rfl (jG ?_)
  refine WL.callE rfl rfl (eqAtr y.atr y.atr _ _ _ _ _ _ _ _ _ hsa0 hxa5) rfl (fun h => ?_) (fun h => absurd rfl h)
  refine jC (j7 [1, 1, 8, 8] rfl (jT 34 [1, 1, 8, 8] rfl rfl (Val.not rfl) (jT 35 [1, 1, 8, 8] rfl rfl (Val.pick rfl) (j6 (jA (jE (jV (jA (jD (ja rfl (jm (jn rfl) (jm (jp 11 rfl rfl rfl) (jm (jo rfl) (jX rfl rfl (jf rfl (jC (WX.inNormal (jA (jD (jX rfl rfl (ja rfl (jC (WX.conv (fun w h => h.sub [0, 0, 0, 0, 0, 0, 0, 0, 0, 0] rfl) ?_)))))))))))))))))))))))
  refine WX.thenK (WK.round (d.entries.length - (k + 1)) (by omega) ⟨k + 1, rfl, by omega, hI4.trans hI5, rfl, rfl, rfl, rfl, ?_, rfl, rfl, rfl, rfl⟩)
  rw [htk]; rfl
 ·have hke : k = d.entries.length := by omega
  subst hke
  rw [List.take_length, hseg]
  refine jS (jx rfl rfl (jM (jB (jE (WC.exit (WX.thenExit (WX.thenExit (WX.inHit (jK (jd rfl (WL.callK [3] rfl rfl rfl (dNodes D.b D.A.b D.mb D.segs _) rfl ?_)))))))))))
  rintro _ rfl
  rw [hD.segs]
  refine ja rfl (jw rfl rfl (jg rfl (jM (jR ?_))))
  refine jP [0, 0, 0, 0, 0, 0, 0, 0, 0] (jr1 rfl (jtB rfl)) ?_
  exact ⟨rfl, rfl⟩
end Go.Proofs.YtggcpoleklcmkaaGreatDoor

/-
 Drawings, the plain law: the model does what the drawing does.
-/

namespace Go.Dc
open Go.Sl Go.Ls Go.Tr
theorem putAll_mem : ∀ {l : List Ent} {f g : Int → Option Atr} {i : Int}, i ∈ l.map Ent.id → putAll f l i = putAll g l i
 | [], _, _, _, h => by cases h
 | x :: l, f, g, i, h => by
  rw [putAll, putAll]
  by_cases hi : i ∈ l.map Ent.id
  ·exact putAll_mem hi
  ·rw [putAll_ne hi, putAll_ne hi]
   have : i = x.id := by
    rcases List.mem_cons.1 h with h | h
    ·exact h
    ·exact absurd h hi
   rw [upAt, upAt, if_pos this, if_pos this]
theorem agr_put {l : List Ent} {f g : Int → Option Atr} {i : Int} (h : i ∉ l.map Ent.id → f i = g i) : putAll f l i = putAll g l i := by
 by_cases hi : i ∈ l.map Ent.id
 ·exact putAll_mem hi
 ·rw [putAll_ne hi, putAll_ne hi, h hi]
section
variable {A B : Ar} {d : Dr} {c : Cm} {at_ : Int → Option Atr}
theorem mset_set (hA : Abs A d.top) (hdom : ∀ i, (d.at_ i).isSome = true ↔ i ≠ 0 ∧ i ∈ d.top.order) (hag : Agr at_ d) (hs : d.segs + 1200 ≤ 1048576) (hsm : c.small) :
  (mset d.top at_ c).2 = (d.set c).2.2 ∧ Agr (mset d.top at_ c).1 (d.set c).1 := by
 by_cases h0 : c.id = 0
 ·rw [mset, if_pos h0, Dr.set, if_pos h0]; exact ⟨rfl, hag⟩
 have hf : (Nd.find c.id d.top).isSome = true ↔ c.id ∈ d.top.order := Nd.find_some c.id d.top
 rw [mset, if_neg h0, Dr.set, if_neg h0]
 cases ha : d.at_ c.id with
 | none =>
  have : (Nd.find c.id d.top).isSome = false := by
   cases h : (Nd.find c.id d.top).isSome with
   | false => rfl
   | true =>
    have := (hdom c.id).2 ⟨h0, hf.1 h⟩
    rw [ha] at this; cases this
  rw [if_pos this]
  exact ⟨rfl, hag⟩
 | some a =>
  have hin := ((hdom c.id).1 (by rw [ha]; rfl)).2
  have hfs := hf.2 hin
  rw [if_neg (by rw [hfs]; decide)]
  have hga : (at_ c.id).getD Atr.z = a := by rw [hag _ hin h0, ha]; rfl
  rw [hga]
  have hgr : ((Nd.find c.id d.top).getD Nd.zero).grp = ((Nd.find c.id d.top).map Nd.grp).getD false := by
   cases Nd.find c.id d.top <;> rfl
  rw [hgr]
  simp only
  by_cases hg : 8 ≤ c.kind ∧ ((Nd.find c.id d.top).map Nd.grp).getD false = true
  ·rw [if_pos hg, if_pos hg]; exact ⟨rfl, hag⟩
  rw [if_neg hg, if_neg hg]
  by_cases he : (change a c).2.2 ≠ 0
  ·rw [if_pos he, if_pos he]; exact ⟨rfl, hag⟩
  rw [if_neg he, if_neg he]
  have hle := change_le (a := a) hsm
  have hm : ¬ mostSegs < d.segs + (change a c).1.path.length - a.path.length := by
   show ¬ (1048576 : Int) < _
   omega
  rw [if_neg hm]
  refine ⟨rfl, fun i hi hi0 => ?_⟩
  show upAt at_ c.id _ i = upAt d.at_ c.id _ i
  rw [upAt, upAt, hag i hi hi0]
theorem mdo_apply (hA : Abs A d.top) (hi : DInv d) (hdom : ∀ i, (d.at_ i).isSome = true ↔ i ≠ 0 ∧ i ∈ d.top.order) (hag : Agr at_ d) (hs : d.segs + 1200 ≤ 1048576) (hsm : c.small) :
  (mdo d.top at_ c).1 = (d.apply c).1.top ∧ (mdo d.top at_ c).2.2 = (d.apply c).2.2 ∧ Agr (mdo d.top at_ c).2.1 (d.apply c).1 := by
 rw [mdo, Dr.apply]
 by_cases k1 : c.kind = 1
 ·rw [if_pos k1, if_pos k1, Dr.add]
  by_cases hW : ¬ Whole c.ents
  ·rw [if_pos hW, if_pos hW]; exact ⟨rfl, rfl, hag⟩
  rw [if_neg hW, if_neg hW]
  by_cases hw : firstWrong c.ents ≠ 0
  ·rw [if_pos hw, if_pos hw]; exact ⟨rfl, rfl, hag⟩
  rw [if_neg hw, if_neg hw]
  have hse := small_segs hsm
  rw [if_neg (show ¬ mostSegs - d.segs < segsOf c.ents by show ¬ (1048576 : Int) - d.segs < _; omega)]
  obtain ⟨n, hn⟩ := (Whole_iff _).1 (Decidable.of_not_not hW)
  have hids := Tk_order hn
  simp only [List.map_nil, List.append_nil] at hids
  rw [nodeOf_eq hn]
  by_cases he : (Nd.add d.top c.parent c.index n).2 = 0
  ·rw [if_pos he, if_neg (fun e => e he)]
   refine ⟨rfl, he, fun i hi hi0 => agr_put fun hni => ?_⟩
   have hc := Nd.count_add hA.od he i
   rw [hids] at hni
   have h1 : i ∈ d.top.order := by
    rw [mem_count]
    have h2 := mem_count.1 (show i ∈ (Nd.add d.top c.parent c.index n).1.order from hi)
    have h3 : n.order.count i = 0 := List.count_eq_zero_of_not_mem hni
    omega
   exact hag i h1 hi0
  ·rw [if_neg he, if_pos he]
   exact ⟨Nd.add_err he, rfl, hag⟩
 rw [if_neg k1, if_neg k1]
 by_cases k2 : c.kind = 2
 ·rw [if_pos k2, if_pos k2, Dr.remove]
  simp only
  by_cases he : (Nd.remove d.top c.id).2.2.2.2 = 0
  ·rw [if_neg (fun e => e he)]
   refine ⟨rfl, he, fun i hi hi0 => ?_⟩
   obtain ⟨o1, o2, o3, o4, o5⟩ := hA.rem_nodup he
   have hc := hA.count_rem he i
   have h1 : i ∈ d.top.order := by
    rw [mem_count]
    have h2 := mem_count.1 (show i ∈ (Nd.remove d.top c.id).1.order from hi)
    omega
   show at_ i = dropAll d.at_ _ i
   rw [dropAll_ne (by rw [ents_ids]; exact o3 i hi)]
   exact hag i h1 hi0
  ·rw [if_pos he]
   refine ⟨?_, rfl, hag⟩
   rcases hA.rem c.id with ⟨_, h⟩ | ⟨p, k, hk, _, _, _, _, _, e, _⟩
   ·exact h
   ·rw [e] at he; exact absurd rfl he
 rw [if_neg k2, if_neg k2]
 by_cases k3 : c.kind = 3
 ·rw [if_pos k3, if_pos k3, Dr.move]
  simp only
  by_cases he : (Nd.move d.top c.id c.parent c.index).2 = 0
  ·rw [if_neg (fun e => e he)]
   refine ⟨rfl, he, fun i hi hi0 => hag i ?_ hi0⟩
   have hc := hA.count_move he i
   rw [mem_count] at hi ⊢
   have h2 : 0 < (Nd.move d.top c.id c.parent c.index).1.order.count i := hi
   omega
  ·rw [if_pos he]
   exact ⟨Nd.move_err he, rfl, hag⟩
 rw [if_neg k3, if_neg k3]
 by_cases k4 : c.kind = 4
 ·rw [if_pos k4, if_pos k4, Dr.wrap]
  by_cases hw : c.atr.check true ≠ 0
  ·rw [if_pos hw, if_pos hw]; exact ⟨rfl, rfl, hag⟩
  rw [if_neg hw, if_neg hw]
  simp only
  by_cases he : (Nd.wrap d.top c.id c.parent c.index c.count).2 = 0
  ·rw [if_pos he, if_neg (fun e => e he)]
   refine ⟨rfl, he, fun i hi hi0 => ?_⟩
   show upAt at_ c.id _ i = upAt d.at_ c.id _ i
   rw [upAt, upAt]
   by_cases hic : i = c.id
   ·rw [if_pos hic, if_pos hic]
   ·rw [if_neg hic, if_neg hic]
    have hc := Nd.count_wrap hA.od he i
    rw [if_neg (fun e => hic e.symm)] at hc
    refine hag i ?_ hi0
    rw [mem_count] at hi ⊢
    have h2 : 0 < (Nd.wrap d.top c.id c.parent c.index c.count).1.order.count i := hi
    omega
  ·rw [if_neg he, if_pos he]
   exact ⟨Nd.wrap_err he, rfl, hag⟩
 rw [if_neg k4, if_neg k4]
 by_cases k5 : c.kind = 5
 ·rw [if_pos k5, if_pos k5, Dr.unwrap]
  simp only
  by_cases he : (Nd.unwrap d.top c.id).2.2.2.2 = 0
  ·rw [if_neg (fun e => e he)]
   refine ⟨rfl, he, fun i hi hi0 => ?_⟩
   have hc := hA.count_unwrap he i
   have h2 : 0 < (Nd.unwrap d.top c.id).1.order.count i := mem_count.1 hi
   have h3 := nodup_count hA.od i
   show at_ i = downAt d.at_ c.id i
   have hic : ¬ i = c.id := fun e => by rw [if_pos e.symm] at hc; omega
   rw [downAt, if_neg hic]
   rw [if_neg (fun e => hic e.symm)] at hc
   refine hag i ?_ hi0
   rw [mem_count]
   omega
  ·rw [if_pos he]
   exact ⟨Nd.unwrap_err he, rfl, hag⟩
 rw [if_neg k5, if_neg k5]
 by_cases k6 : 6 ≤ c.kind ∧ c.kind ≤ 12
 ·rw [if_pos k6, if_pos k6]
  obtain ⟨h1, h2⟩ := mset_set hA hdom hag hs hsm
  exact ⟨set_top.symm, h1, h2⟩
 ·rw [if_neg k6, if_neg k6]; exact ⟨rfl, rfl, hag⟩
end
end Go.Dc

/-
 Drawings, the law's play; DocPlays. -- KS14
-/

namespace Go.Proofs.YtggcpoleklcmkaaGreatDoor
open Go.Sl Go.Ls Go.Tr Go.Dc
set_option maxRecDepth 100000
set_option maxHeartbeats 8000000
attribute [local irreducible] WC WL WX WK WA WAK Val Ctr RunRes ResIs Rd At sl box pt Exit.then Exit.inBlock bodyPost Code.wp wpList
def DPlayR (n : Nat) : Value → Mem → List HP → Prop := fun v I' L' => ∃ (D : Dm) (d : Dr) (g mb cnt : Nat) (kv : Value) (at_ : Int → Option Atr) (f : Int → Option Value), v = .tuple #[ptr D.b, ptr g, .bool true] ∧ L' = mbox g mb d.top kv :: mp mb f cnt :: D.hp ∧
 DAbs I' D d ∧ Fit d ∧ LsAt Nd.Rp I' d.top.kids kv ∧ AtRep I' at_ f ∧ Agr at_ d ∧ d.segs ≤ 1200 * (n : Int)
theorem dPlay (l : List Cm) (v : Value) (I : Mem) (hN : NeedAt I) (hv : LsAt Cm.rep I l v) (hs : ∀ c ∈ l, c.small) (hl : l.length ≤ 200) : Ctr Tryz.prog 23 [v] I [] (DPlayR l.length) := by
 have hv0 := hv
 obtain ⟨a1, c1, rfl⟩ := hv.sl
 refine Ctr.intro Tryz.func23 rfl rfl rfl fun E F => ?_
 refine jS (ji rfl (ji rfl (jg rfl (jN (WL.callP [] rfl rfl (dNew _) rfl ?_)))))
 rintro _ I1 _ _ ⟨rfl, b, tb, mb0, cg, db, rfl, rfl⟩
 have hD0 := new_abs I1 b mb0 cg db tb
 generalize hDe : ({ b := db, A := Ar.fresh b mb0 cg, mb := tb, f := fun _ => none, cnt := 0, segs := 0 } : Dm) = D0 at hD0
 have hL0 : docBox db b tb 0 :: mp tb (fun _ => none) 0 :: (Ar.fresh b mb0 cg).hp = D0.hp := by rw [← hDe]; rfl
 have hb0 : db = D0.b := by rw [← hDe]
 rw [hL0, hb0]
 clear hL0 hb0 hDe
 refine jW ?_
 refine ji rfl (jN (jm (Val.build (cs := [vi 0, .bool true, .slice none 0 0]) rfl) ?_))
 refine WL.makeMap rfl fun mb => ?_
 refine jW ?_
 refine jm (Val.build (cs := [vi 0, .bool true, .slice none 0 0, .map (some mb)]) rfl) ?_
 refine WL.boxA rfl rfl (fun _ => ?_)
 refine jW ?_
 refine ji rfl (jM (jB (jS (jd rfl ?_))))
 rename_i g
 refine jm (Val.eqlNilP rfl) ?_
 refine jM (jE (jV (jA (jB (jS (jc rfl (jm (jo rfl) (ja rfl (jM (WC.block (WC.conv (fun w h => h.sub [0, 8, 7, 0, 0, 0, 0, 0, 0, 0] rfl) ?_)))))))))))
 refine WC.loop (fun n ρ' I' L' => ∃ (k : Nat) (D : Dm) (d : Dr) (cnt : Nat) (kv : Value) (at_ : Int → Option Atr) (f : Int → Option Value), n = l.length - k ∧ k ≤ l.length ∧ I1.le I' ∧ ρ' 5 = ptr D.b ∧ ρ' 6 = ptr g ∧ ρ' 20 = .slice a1 l.length c1 ∧ ρ' 21 = vi l.length ∧ ρ' 22 = vi k ∧
   L' = F :: mbox g mb d.top kv :: mp mb f cnt :: D.hp ∧ DAbs I' D d ∧ Fit d ∧ LsAt Nd.Rp I' d.top.kids kv ∧ AtRep I' at_ f ∧ Agr at_ d ∧ d.segs ≤ 1200 * (k : Int))
  l.length ⟨0, D0, Dr.new, 0, _, fun _ => none, _, rfl, by omega, Mem.le.refl _, rfl, rfl, rfl, rfl, rfl, rfl, hD0, Fit.new, LsAt.nil _ _, fun i => .inl ⟨rfl, rfl⟩, fun i hi hi0 => rfl, by decide⟩ ?_
 rintro n ρ' I2 L' ⟨k, D, d, cnt, kv, at_, f, rfl, hk, hI2, r5, r6, r20, r21, r22, rfl, hD, hF, hkv, hat, hag, hsg⟩
 rw [← upd_self r22, ← upd_self r21, ← upd_self r20, ← upd_self r6, ← upd_self r5]
 clear r22 r21 r20 r6 r5
 have hN2 := hN.mono hI2
 by_cases hkn : k < l.length
 ·obtain ⟨bq, off, cap, cs, he, ⟨e, t, u, dd, q, rfl, hc⟩, hA⟩ := (hv0.mono hI2).get k hkn
  cases he
  have hsm := hs _ (List.getElem_mem hkn)
  generalize l[k] = c at *
  have hse := small_segs hsm
  have hnn := segsOf_nonneg c.ents
  have hle : c.ents.length ≤ 100000 := by have := hsm.1; omega
  have hc0 := hc
  obtain ⟨x0, y0, x1, y1, x2, y2, x3, y3, x4, y4, rfl, rfl, rfl, rfl, rfl⟩ := hc.sl
  obtain ⟨m1, m2, m3⟩ := mdo_apply (c := c) hD.abs hF.inv hD.dom hag (by omega) hsm
  refine jS (jy rfl rfl (jM (jB (jF (jV (jA (jB (WC.block (jS (jm (jZ rfl rfl) (jm (Val.loadI rfl (by assumption) rfl) ?_)))))))))))
  refine WL.alloc rfl (fun _ => ?_)
  refine jW ?_
  refine WL.stA 10 rfl rfl rfl rfl ?_
  refine jN (jd rfl (jm (jt 10 rfl rfl rfl) ?_))
  rename_i g8
  refine WL.callP [1, 1] rfl rfl (mDo D.A d.top hD.abs kv at_ f g mb cnt c _ _ _ _ _ _ hN2 hkv hat hc0 hle) rfl ?_
  rintro _ I3 _ hI3 ⟨kv', f', cnt', rfl, rfl, hkv', hat'⟩
  rw [m1] at hkv' ⊢
  rw [m2]
  generalize (mdo d.top at_ c).2.1 = at2 at hat' m3
  refine jW ?_
  refine jf rfl (jN (jd rfl (jm (jt 8 rfl rfl rfl) (WL.callP [1, 1, 1, 1, 1, 1, 1] rfl rfl (dApply D d c _ _ _ _ _ _ (hN2.mono hI3) (hD.mono hI3) (hc0.mono hI3) hle hF.inv.nonneg (by omega)) rfl ?_))))
  rintro _ I4 _ hI4 ⟨D', bcs, rfl, ⟨e', t', u', d', q', rfl, hbk⟩, hb, rfl, hD'⟩
  obtain ⟨_, _, _, _, _, _, _, _, _, _, rfl, rfl, rfl, rfl, rfl⟩ := hbk.sl
  have hF' := hF.apply (c := c) hD.abs hD.dom hD'.abs
  have hsg' := apply_segs (d := d) hsm
  rw [← hb]
  refine jW ?_
  refine je rfl (jm (Val.extractA rfl rfl) (jm (jq rfl rfl) (WL.alloc rfl (fun _ => ?_))))
  refine jW ?_
  refine WL.stA 11 rfl rfl rfl rfl ?_
  refine jf rfl (jN (ja rfl (ja rfl (jz rfl rfl (jb rfl (jG (jd rfl (jG (jd rfl (jG ?_))))))))))
  rename_i g10
  refine WL.callR [2, 2, 2, 2, 2, 2, 2, 2, 2] rfl rfl rfl (mIs D' (d.apply c).1 _ hD' hF'.inv kv' at2 f' g mb cnt' (hkv'.mono hI4) (hat'.mono hI4) m3) rfl ?_
  rintro _ I5 hI5 rfl
  refine jG (jl rfl (jk rfl (jM (jE (jV (WX.inNormal (jA (jD (jX rfl rfl (ja rfl (jC (WX.conv (fun w h => h.sub [0, 1, 1, 1, 1, 1, 1, 1, 1, 1] rfl) ?_))))))))))))
  exact WX.thenK (WK.round (l.length - (k + 1)) (by omega) ⟨k + 1, D', (d.apply c).1, cnt', kv', at2, f', rfl, by omega, hI2.trans (hI3.trans (hI4.trans hI5)), rfl, rfl, rfl, rfl, rfl, rfl, hD'.mono hI5, hF', hkv'.mono (hI4.trans hI5), hat'.mono (hI4.trans hI5), m3, by omega⟩)
 ·have hkl : k = l.length := by omega
  subst hkl
  refine jS (jx rfl rfl (jM (jB (jE (WC.exit (WX.thenExit (WX.thenExit (WX.inHit (jK (jd rfl (jd rfl (ji rfl (ji rfl (jg rfl (jM (jR ?_))))))))))))))))
  have hJ := hI2
  refine jP [0, 0, 0, 0, 0, 0, 0, 0, 0] (jr3 rfl (ResIs.tmpP rfl) (ResIs.tmpP rfl) (jtB rfl)) ?_
  exact ⟨D, d, g, mb, cnt, kv, at_, f, rfl, rfl, hD, hF, hkv, hat, hag, hsg⟩
end Go.Proofs.YtggcpoleklcmkaaGreatDoor

/-
 Drawings, the plain law: what takes a command back leaves the drawing as it was.
-/

namespace Go.Dc
open Go.Sl Go.Ls Go.Tr
theorem Tk_ents (at_ : Int → Atr) (n : Nd) : ∀ r, Tk (ents at_ n ++ r) = some (n, r) := by
 refine Nd.rec (motive_1 := fun n => ∀ r, Tk (ents at_ n ++ r) = some (n, r)) (motive_2 := fun l => ∀ r, Tks l.length (entss at_ l ++ r) = some (l, r)) ?_ ?_ ?_ n
 ·intro i g ks h r
  rw [ents, List.cons_append, Tk_cons]
  have h1 := entss_len at_ ks
  have h2 := Nd.len_le_sizes ks
  rw [if_neg (by simp only [List.length_append]; omega)]
  simp only [Int.toNat_natCast, h r]
 ·intro r
  rw [entss]; exact Tks_zero _
 ·intro k ks h1 h2 r
  rw [entss, List.length_cons, Tks_succ, List.append_assoc, h1]
  simp only [h2 r]
theorem Tk_ents0 (at_ : Int → Atr) (n : Nd) : Tk (ents at_ n) = some (n, []) := by
 have := Tk_ents at_ n []
 rwa [List.append_nil] at this
theorem ents_gs (at_ : Int → Atr) (n : Nd) : (ents at_ n).map (fun x => (x.id, x.grp)) = n.gs := Tk_gs (Tk_ents0 at_ n)
theorem dropAll_mem : ∀ {l : List Ent} {f : Int → Option Atr} {i : Int}, i ∈ l.map Ent.id → dropAll f l i = none
 | [], _, _, h => by cases h
 | x :: l, f, i, h => by
  rw [dropAll]
  by_cases hi : i ∈ l.map Ent.id
  ·exact dropAll_mem hi
  ·rw [dropAll_ne hi]
   have : i = x.id := by
    rcases List.mem_cons.1 h with h | h
    ·exact h
    ·exact absurd h hi
   rw [downAt, if_pos this]
theorem Dr.ext_of {d e : Dr} (ht : e.top = d.top) (ha : e.at_ = d.at_) (hd : DInv d) (he : DInv e) : e = d := by
 have h1 := hd.seg
 have h2 := he.seg
 obtain ⟨t, a, s⟩ := d
 obtain ⟨t', a', s'⟩ := e
 simp only at ht ha
 subst ht; subst ha
 simp only at h1 h2
 congr 1
 rw [h1, h2]
 rfl
section
variable {A B : Ar} {d : Dr} {c : Cm}
theorem apply_err (h : (d.apply c).2.2 ≠ 0) : (d.apply c).1 = d ∧ (d.apply c).2.1 = Cm.z := by
 have key : ∀ {q : Dr × Cm × Int}, q.2.2 ≠ 0 → (q.2.2 = 0 ∨ (q.1 = d ∧ q.2.1 = Cm.z)) → q.1 = d ∧ q.2.1 = Cm.z := fun h1 h2 => h2.resolve_left h1
 refine key h ?_
 rw [Dr.apply]
 by_cases k1 : c.kind = 1
 ·rw [if_pos k1, Dr.add]
  repeat' split
  all_goals first | exact .inr ⟨rfl, rfl⟩ | exact .inl rfl
 rw [if_neg k1]
 by_cases k2 : c.kind = 2
 ·rw [if_pos k2, Dr.remove]
  simp only
  split
  all_goals first | exact .inr ⟨rfl, rfl⟩ | exact .inl rfl
 rw [if_neg k2]
 by_cases k3 : c.kind = 3
 ·rw [if_pos k3, Dr.move]
  simp only
  split
  all_goals first | exact .inr ⟨rfl, rfl⟩ | exact .inl rfl
 rw [if_neg k3]
 by_cases k4 : c.kind = 4
 ·rw [if_pos k4, Dr.wrap]
  simp only
  repeat' split
  all_goals first | exact .inr ⟨rfl, rfl⟩ | exact .inl rfl
 rw [if_neg k4]
 by_cases k5 : c.kind = 5
 ·rw [if_pos k5, Dr.unwrap]
  simp only
  split
  all_goals first | exact .inr ⟨rfl, rfl⟩ | exact .inl rfl
 rw [if_neg k5]
 by_cases k6 : 6 ≤ c.kind ∧ c.kind ≤ 12
 ·rw [if_pos k6, Dr.set]
  repeat' split
  all_goals first | exact .inr ⟨rfl, rfl⟩ | exact .inl rfl
 ·rw [if_neg k6]; exact .inr ⟨rfl, rfl⟩
theorem back_core (hA : Abs A d.top) (hF : Fit d) (hdom : ∀ i, (d.at_ i).isSome = true ↔ i ≠ 0 ∧ i ∈ d.top.order) (hB : Abs B (d.apply c).1.top) (h : (d.apply c).2.2 = 0) :
  ((d.apply c).1.apply (d.apply c).2.1).1.top = d.top ∧ ((d.apply c).1.apply (d.apply c).2.1).1.at_ = d.at_ ∧ ((d.apply c).1.apply (d.apply c).2.1).2.2 = 0 := by
 have key : ∀ {q : Dr × Cm × Int}, d.apply c = q → (q.1.apply q.2.1).1.top = d.top ∧ (q.1.apply q.2.1).1.at_ = d.at_ ∧ (q.1.apply q.2.1).2.2 = 0 → ((d.apply c).1.apply (d.apply c).2.1).1.top = d.top ∧ ((d.apply c).1.apply (d.apply c).2.1).1.at_ = d.at_ ∧ ((d.apply c).1.apply (d.apply c).2.1).2.2 = 0 := by
  rintro q rfl h
  exact h
 have h1n : ∀ {P : Prop} [Decidable P] {q : Dr × Cm × Int} {e : Int} , (if P then (d, Cm.z, e) else q).2.2 = 0 → e ≠ 0 → ¬ P ∧ (if P then (d, Cm.z, e) else q) = q := fun {P _ q e} h he => by
  split at h
  ·exact absurd h he
  ·rename_i hp; exact ⟨hp, if_neg hp⟩
 by_cases k1 : c.kind = 1
 ·have ha : d.apply c = d.add c := by rw [Dr.apply, if_pos k1]
  rw [ha] at h hB
  rw [Dr.add] at h
  obtain ⟨hW, e1⟩ := h1n h (by decide)
  rw [e1] at h
  have hf : firstWrong c.ents = 0 := by
   by_cases hf : firstWrong c.ents = 0
   ·exact hf
   ·rw [if_pos hf] at h; exact absurd h hf
  rw [if_neg (fun e => e hf)] at h
  have hm : ¬ mostSegs - d.segs < segsOf c.ents := fun hm => by
   rw [if_pos hm] at h
   simp only at h
   split at h
   ·rename_i h2; exact h2 h
   ·exact absurd h (by decide)
  rw [if_neg hm] at h
  have he : (Nd.add d.top c.parent c.index (nodeOf c.ents)).2 = 0 := by
   by_cases he : (Nd.add d.top c.parent c.index (nodeOf c.ents)).2 = 0
   ·exact he
   ·rw [if_pos he] at h; exact absurd h he
  have hq : d.apply c = (⟨(Nd.add d.top c.parent c.index (nodeOf c.ents)).1, putAll d.at_ c.ents, d.segs + segsOf c.ents⟩, { Cm.z with kind := 2, id := (nodeOf c.ents).id }, 0) := by
   rw [ha, Dr.add, if_neg hW, if_neg (fun e => e hf), if_neg hm, if_neg (fun e => e he)]
  rw [← ha, hq] at hB
  refine key hq ?_
  clear key hq h h1n e1 ha
  obtain ⟨n, hn⟩ := (Whole_iff _).1 (Decidable.of_not_not hW)
  have hids := Tk_order hn
  simp only [List.map_nil, List.append_nil] at hids
  rw [nodeOf_eq hn] at hB he ⊢
  have hu := hA.undoAdd hB (Prod.ext rfl he : Nd.add d.top c.parent c.index n = (_, 0))
  have hco := Nd.count_add hA.od he
  simp only at hB hu ⊢
  rw [Dr.apply, if_neg (by show ¬ (2 : Int) = 1; decide), if_pos rfl, Dr.remove]
  simp only [hu]
  rw [if_neg (fun e => e rfl)]
  refine ⟨rfl, ?_, rfl⟩
  simp only
  funext i
  have hie := ents_ids (Dr.get ⟨(Nd.add d.top c.parent c.index n).1, putAll d.at_ c.ents, d.segs + segsOf c.ents⟩) n
  by_cases hi : i ∈ n.order
  ·rw [dropAll_mem (by rw [hie]; exact hi)]
   cases hat : d.at_ i with
   | none => rfl
   | some a =>
    have h1 := mem_count.1 ((hdom i).1 (by rw [hat]; rfl)).2
    have h2 := mem_count.1 hi
    have h3 := hco i
    have h4 := nodup_count hB.od i
    omega
  ·rw [dropAll_ne (by rw [hie]; exact hi), putAll_ne (by rw [hids]; exact hi)]
 by_cases k2 : c.kind = 2
 ·have ha : d.apply c = d.remove c := by rw [Dr.apply, if_neg k1, if_pos k2]
  have he : (Nd.remove d.top c.id).2.2.2.2 = 0 := by
   by_cases he : (Nd.remove d.top c.id).2.2.2.2 = 0
   ·exact he
   ·rw [ha, Dr.remove] at h
    simp only at h
    rw [if_pos he] at h; exact absurd h he
  have hq : d.apply c = (⟨(Nd.remove d.top c.id).1, dropAll d.at_ (ents d.get (Nd.remove d.top c.id).2.1), d.segs - segsOf (ents d.get (Nd.remove d.top c.id).2.1)⟩, { Cm.z with kind := 1, parent := (Nd.remove d.top c.id).2.2.1, index := (Nd.remove d.top c.id).2.2.2.1, ents := ents d.get (Nd.remove d.top c.id).2.1 }, 0) := by
   rw [ha, Dr.remove]
   simp only
   rw [if_neg (fun e => e he)]
  rw [hq] at hB
  refine key hq ?_
  clear key hq h h1n ha
  have hu := hA.undoRemove hF.good (t1 := (Nd.remove d.top c.id).1) (n := (Nd.remove d.top c.id).2.1) (q := (Nd.remove d.top c.id).2.2.1) (k := (Nd.remove d.top c.id).2.2.2.1) (i := c.id) (by rw [← he])
  obtain ⟨o1, o2, o3, o4, o5⟩ := hA.rem_nodup he
  have hcr := hA.count_rem he
  have hgr := hA.gcount_rem he
  have h0n : (0 : Int) ∉ (Nd.remove d.top c.id).2.1.order := o3 0 (mem0 hB)
  generalize (Nd.remove d.top c.id).1 = t1 at *
  generalize (Nd.remove d.top c.id).2.1 = n at *
  generalize (Nd.remove d.top c.id).2.2.1 = q at *
  generalize (Nd.remove d.top c.id).2.2.2.1 = k at *
  have htk := Tk_ents0 d.get n
  have hids := ents_ids d.get n
  have hgs := ents_gs d.get n
  have hat : ∀ x ∈ ents d.get n, x.atr = d.get x.id := fun x hx => ents_atr hx
  have hin : ∀ i ∈ n.order, i ≠ 0 ∧ i ∈ d.top.order := fun i hi => ⟨fun e => h0n (by rw [← e]; exact hi), by
   rw [mem_count]
   have h1 := hcr i
   have h2 := mem_count.1 hi
   omega⟩
  have hwr : firstWrong (ents d.get n) = 0 := firstWrong_none _ fun y hy => by
   have h1 : (y.id, y.grp) ∈ n.gs := by rw [← hgs]; exact List.mem_map_of_mem (f := fun x : Ent => (x.id, x.grp)) hy
   have h2 : (y.id, y.grp) ∈ d.top.gs := by
    have h3 := hgr (y.id, y.grp)
    have h4 := List.count_pos_iff.2 h1
    exact List.count_pos_iff.1 (by omega)
   have h5 := hF.inv.right _ h2 (hin _ (gs_id h1)).1
   rw [hat y hy]
   exact h5
  simp only at hu ⊢
  rw [Dr.apply, if_pos rfl, Dr.add]
  simp only
  have hmost := hF.inv.most
  rw [if_neg (fun e => e ((Whole_iff _).2 ⟨n, htk⟩)), if_neg (fun e => e hwr), if_neg (by omega), nodeOf_eq htk, hu, if_neg (fun e => e rfl)]
  refine ⟨rfl, ?_, rfl⟩
  simp only
  funext i
  by_cases hi : i ∈ n.order
  ·have hi2 : i ∈ (ents d.get n).map Ent.id := by rw [hids]; exact hi
   obtain ⟨x, hx, rfl⟩ := List.mem_map.1 hi2
   rw [putAll_at (by rw [hids]; exact o2) hx, hat x hx]
   obtain ⟨a, ha⟩ := Option.isSome_iff_exists.1 ((hdom x.id).2 (hin _ hi))
   rw [Dr.get, ha]; rfl
  ·rw [putAll_ne (by rw [hids]; exact hi), dropAll_ne (by rw [hids]; exact hi)]
 by_cases k3 : c.kind = 3
 ·have ha : d.apply c = d.move c := by rw [Dr.apply, if_neg k1, if_neg k2, if_pos k3]
  have he : (Nd.move d.top c.id c.parent c.index).2 = 0 := by
   by_cases he : (Nd.move d.top c.id c.parent c.index).2 = 0
   ·exact he
   ·rw [ha, Dr.move] at h
    simp only at h
    rw [if_pos he] at h; exact absurd h he
  obtain ⟨_, _, _, hw⟩ := hA.rem_small (Nd.move_rem he)
  have hq : d.apply c = ({ d with top := (Nd.move d.top c.id c.parent c.index).1 }, { Cm.z with kind := 3, id := c.id, parent := (Nd.remove d.top c.id).2.2.1, index := (Nd.remove d.top c.id).2.2.2.1 }, 0) := by
   rw [ha, Dr.move]
   simp only [hw]
   rw [if_neg (fun e => e he)]
   rfl
  rw [hq] at hB
  refine key hq ?_
  clear key hq h h1n ha
  have hu := hA.undoMove hF.good hB (Prod.ext rfl he : Nd.move d.top c.id c.parent c.index = (_, 0)) hw
  simp only at hu ⊢
  rw [Dr.apply, if_neg (by show ¬ (3 : Int) = 1; decide), if_neg (by show ¬ (3 : Int) = 2; decide), if_pos rfl, Dr.move]
  simp only [hu]
  rw [if_neg (fun e => e rfl)]
  exact ⟨rfl, rfl, rfl⟩
 by_cases k4 : c.kind = 4
 ·have ha : d.apply c = d.wrap c := by rw [Dr.apply, if_neg k1, if_neg k2, if_neg k3, if_pos k4]
  have hc : c.atr.check true = 0 := by
   by_cases hc : c.atr.check true = 0
   ·exact hc
   ·rw [ha, Dr.wrap, if_pos hc] at h; exact absurd h hc
  have he : (Nd.wrap d.top c.id c.parent c.index c.count).2 = 0 := by
   by_cases he : (Nd.wrap d.top c.id c.parent c.index c.count).2 = 0
   ·exact he
   ·rw [ha, Dr.wrap, if_neg (fun e => e hc)] at h
    simp only at h
    rw [if_pos he] at h; exact absurd h he
  have hq : d.apply c = (⟨(Nd.wrap d.top c.id c.parent c.index c.count).1, upAt d.at_ c.id c.atr, d.segs⟩, { Cm.z with kind := 5, id := c.id }, 0) := by
   rw [ha, Dr.wrap, if_neg (fun e => e hc)]
   simp only
   rw [if_neg (fun e => e he)]
  rw [hq] at hB
  refine key hq ?_
  clear key hq h h1n ha
  have hu := hA.undoWrap hB (Prod.ext rfl he : Nd.wrap d.top c.id c.parent c.index c.count = (_, 0))
  have hcn := Nd.count_wrap hA.od he c.id
  have hod := nodup_count hB.od c.id
  simp only at hu hod ⊢
  rw [Dr.apply, if_neg (by show ¬ (5 : Int) = 1; decide), if_neg (by show ¬ (5 : Int) = 2; decide), if_neg (by show ¬ (5 : Int) = 3; decide), if_neg (by show ¬ (5 : Int) = 4; decide), if_pos rfl, Dr.unwrap]
  simp only [hu]
  rw [if_neg (fun e => e rfl)]
  refine ⟨rfl, ?_, rfl⟩
  simp only
  funext i
  rw [downAt, upAt]
  by_cases hi : i = c.id
  ·rw [if_pos hi]
   cases hat : d.at_ i with
   | none => rfl
   | some a =>
    have h1 := mem_count.1 ((hdom i).1 (by rw [hat]; rfl)).2
    rw [if_pos rfl] at hcn
    rw [hi] at h1
    omega
  ·rw [if_neg hi, if_neg hi]
 by_cases k5 : c.kind = 5
 ·have ha : d.apply c = d.unwrap c := by rw [Dr.apply, if_neg k1, if_neg k2, if_neg k3, if_neg k4, if_pos k5]
  have he : (Nd.unwrap d.top c.id).2.2.2.2 = 0 := by
   by_cases he : (Nd.unwrap d.top c.id).2.2.2.2 = 0
   ·exact he
   ·rw [ha, Dr.unwrap] at h
    simp only at h
    rw [if_pos he] at h; exact absurd h he
  have hq : d.apply c = (⟨(Nd.unwrap d.top c.id).1, downAt d.at_ c.id, d.segs⟩, { Cm.z with kind := 4, id := c.id, parent := (Nd.unwrap d.top c.id).2.1, index := (Nd.unwrap d.top c.id).2.2.1, count := (Nd.unwrap d.top c.id).2.2.2.1, atr := d.get c.id }, 0) := by
   rw [ha, Dr.unwrap]
   simp only
   rw [if_neg (fun e => e he)]
  rw [hq] at hB
  refine key hq ?_
  clear key hq h h1n ha
  have hu := hA.undoUnwrap hF.good (t1 := (Nd.unwrap d.top c.id).1) (q := (Nd.unwrap d.top c.id).2.1) (k := (Nd.unwrap d.top c.id).2.2.1) (c := (Nd.unwrap d.top c.id).2.2.2.1) (i := c.id) (by rw [← he])
  have hcn := hA.count_unwrap he c.id
  have hgn := hA.gcount_unwrap he (c.id, true)
  rw [if_pos rfl] at hcn hgn
  have hin : c.id ∈ d.top.order := mem_count.2 (by omega)
  have hgin : (c.id, true) ∈ d.top.gs := List.count_pos_iff.1 (by omega)
  obtain ⟨_, _, _, _, hid0⟩ := hA.rem_nodup (Nd.unwrap_rem he)
  have hck : (d.get c.id).check true = 0 := hF.inv.right _ hgin hid0
  simp only at hu ⊢
  rw [Dr.apply, if_neg (by show ¬ (4 : Int) = 1; decide), if_neg (by show ¬ (4 : Int) = 2; decide), if_neg (by show ¬ (4 : Int) = 3; decide), if_pos rfl, Dr.wrap]
  simp only [hu]
  rw [if_neg (fun e => e hck), if_neg (fun e => e rfl)]
  refine ⟨rfl, ?_, rfl⟩
  simp only
  funext i
  rw [upAt, downAt]
  by_cases hi : i = c.id
  ·rw [if_pos hi]
   obtain ⟨a, ha⟩ := Option.isSome_iff_exists.1 ((hdom c.id).2 ⟨hid0, hin⟩)
   rw [hi, Dr.get, ha]; rfl
  ·rw [if_neg hi, if_neg hi]
 by_cases k6 : 6 ≤ c.kind ∧ c.kind ≤ 12
 case neg =>
  rw [Dr.apply, if_neg k1, if_neg k2, if_neg k3, if_neg k4, if_neg k5, if_neg k6] at h
  exact absurd h (by show ¬ (33 : Int) = 0; decide)
 have ha : d.apply c = d.set c := by rw [Dr.apply, if_neg k1, if_neg k2, if_neg k3, if_neg k4, if_neg k5, if_pos k6]
 rw [ha, Dr.set] at h
 obtain ⟨hid0, e1⟩ := h1n h (by decide)
 rw [e1] at h
 cases hat : d.at_ c.id with
 | none => rw [hat] at h; exact absurd h (by show ¬ (31 : Int) = 0; decide)
 | some a =>
  rw [hat] at h
  simp only at h
  obtain ⟨hgr, e2⟩ := h1n h (by decide)
  rw [e2] at h
  have hc : (change a c).2.2 = 0 := by
   by_cases hc : (change a c).2.2 = 0
   ·exact hc
   ·rw [if_pos hc] at h; exact absurd h hc
  rw [if_neg (fun e => e hc)] at h
  obtain ⟨hm, _⟩ := h1n h (by decide)
  have hq : d.apply c = (⟨d.top, upAt d.at_ c.id (change a c).1, d.segs + (change a c).1.path.length - a.path.length⟩, { (change a c).2.1 with id := c.id }, 0) := by
   rw [ha, Dr.set, if_neg hid0, hat]
   simp only
   rw [if_neg hgr, if_neg (fun e => e hc), if_neg hm]
  refine key hq ?_
  clear key hq h h1n ha e1 e2
  have hin := ((hdom c.id).1 (by rw [hat]; rfl)).2
  have hgin : ∃ g, (c.id, g) ∈ d.top.gs := by
   rw [← Nd.order_gs] at hin
   obtain ⟨p, hp, e⟩ := List.mem_map.1 hin
   exact ⟨p.2, by rw [← e]; exact hp⟩
  obtain ⟨g, hgin⟩ := hgin
  have hck : (d.get c.id).check g = 0 := hF.inv.right _ hgin hid0
  rw [Dr.get, hat] at hck
  obtain ⟨b1, b2, b3, b4, b5⟩ := change_back (c := c) hck k6.1 k6.2 hc c.id
  have hmost := hF.inv.most
  simp only [Option.getD_some] at b1 b2 b3 b4 b5
  generalize hbk : ({ (change a c).2.1 with id := c.id } : Cm) = bk at *
  have hbi : bk.id = c.id := by rw [← hbk]
  have hbkk : bk.kind = (change a c).2.1.kind := by rw [← hbk]
  rw [← hbkk] at b3 b4 b5
  simp only
  rw [Dr.apply, if_neg (by omega), if_neg (by omega), if_neg (by omega), if_neg (by omega), if_neg (by omega), if_pos ⟨b3, b4⟩, Dr.set, hbi, if_neg hid0]
  simp only [upAt, if_pos]
  rw [if_neg (fun hh => hgr ⟨b5 hh.1, hh.2⟩), if_neg (fun e => e b2), b1, if_neg (by omega)]
  refine ⟨rfl, ?_, rfl⟩
  simp only
  funext i
  rw [upAt]
  by_cases hi : i = c.id
  ·rw [if_pos hi, hi, hat]
  ·rw [if_neg hi, upAt, if_neg hi]
theorem apply_back (hA : Abs A d.top) (hF : Fit d) (hdom : ∀ i, (d.at_ i).isSome = true ↔ i ≠ 0 ∧ i ∈ d.top.order) (hB : Abs B (d.apply c).1.top) (hdom' : ∀ i, ((d.apply c).1.at_ i).isSome = true ↔ i ≠ 0 ∧ i ∈ (d.apply c).1.top.order) (h : (d.apply c).2.2 = 0) :
  ((d.apply c).1.apply (d.apply c).2.1).1 = d ∧ ((d.apply c).1.apply (d.apply c).2.1).2.2 = 0 := by
 obtain ⟨h1, h2, h3⟩ := back_core hA hF hdom hB h
 have hF' := hF.apply hA hdom hB
 have hi := inv_apply (B := A) hF'.inv hB hdom' (c := (d.apply c).2.1) (by rw [h1]; exact hA)
 exact ⟨Dr.ext_of h1 h2 hF.inv hi, h3⟩
end
end Go.Dc

/-
 Drawings: DocBack. -- KS14
-/

namespace Go.Sl
open Go.Ls
section
variable {Γ : Cx} {ρ : Nat → Value} {I : Mem} {L : List HP} {Q : Post}
theorem WC.freezeL {α : Type} {R : Rep α} [hR : RepMono R] {c : Code} {e sz : Nat} {v : Value} {l : List α} {p : HP} {L' : List HP} (k : Nat) (hL : L[k]? = some p) (hp : OwnL R e sz I l v p) [hE : EraL L k L'] (next : ∀ I', I.le I' → LsAt R I' l v → WC Γ c ρ I' L' Q) : WC Γ c ρ I L Q := by
 obtain ⟨css, rfl, h2⟩ := hp
 exact WC.freeze k hL fun I' hI hA => next I' hI ⟨css, hA, h2.imp fun a b h => hR.mono h hI⟩
theorem WC.cutC {id : Nat} {x y : Code} (mid : (Nat → Value) → Mem → List HP → Prop) (h : WC Γ x ρ I L (Exit.inBlock id (Exit.then (fun a w => ∃ ρ' I' L', mid ρ' I' L' ∧ Loc Γ.n Γ.ds ρ' a ∧ Sat Γ.E w I' L') Q)))
  (k : ∀ ρ' I' L', mid ρ' I' L' → WC Γ y ρ' I' L' Q) : WC Γ x ρ I L (Exit.inBlock id (Exit.then (y.wp Γ.P Q) Q)) := fun a w ha hw => wp_mono (h a w ha hw) fun e a w hq => by
 have key : (∃ ρ' I' L', mid ρ' I' L' ∧ Loc Γ.n Γ.ds ρ' a ∧ Sat Γ.E w I' L') → y.wp Γ.P Q a w := fun ⟨ρ', I', L', hm, ha, hw⟩ => k ρ' I' L' hm a w ha hw
 cases e with
 | normal => exact key hq
 | exit j =>
  simp only [Exit.inBlock] at hq ⊢
  split
  ·rename_i hj; rw [if_pos hj] at hq; exact key hq
  ·rename_i hj; rw [if_neg hj] at hq; exact hq
 | _ => exact hq
end
end Go.Sl
namespace Go.Dc
open Go.Sl Go.Ls Go.Tr
section
variable {A B : Ar} {d : Dr} {c : Cm}
theorem back_fits (hA : Abs A d.top) (hF : Fit d) (hF' : Fit (d.apply c).1) : (d.apply c).2.1.ents.length ≤ 100000 ∧ (d.apply c).1.segs + segsOf (d.apply c).2.1.ents ≤ 1048576 := by
 have hm : d.segs ≤ 1048576 := hF.inv.most
 have hm' : (d.apply c).1.segs ≤ 1048576 := hF'.inv.most
 have nil : ∀ {q : Dr × Cm × Int}, q.1.segs ≤ 1048576 → q.2.1.ents = [] → q.2.1.ents.length ≤ 100000 ∧ q.1.segs + segsOf q.2.1.ents ≤ 1048576 := by
  intro q h1 h2
  rw [h2]
  refine ⟨Nat.zero_le _, ?_⟩
  have : segsOf [] = 0 := rfl
  omega
 by_cases k2 : c.kind = 2
 ·have ha : d.apply c = d.remove c := by rw [Dr.apply, if_neg (by omega), if_pos k2]
  rw [ha, Dr.remove] at hm' ⊢
  simp only at hm' ⊢
  split
  ·refine ⟨Nat.zero_le _, ?_⟩
   show d.segs + 0 ≤ _
   omega
  ·have h1 := ents_len d.get (Nd.remove d.top c.id).2.1
   have h2 := (hA.remSize c.id).2
   refine ⟨by simp only; omega, ?_⟩
   simp only
   omega
 ·refine nil hm' ?_
  rw [Dr.apply]
  by_cases k1 : c.kind = 1
  ·rw [if_pos k1, Dr.add]
   repeat' split
   all_goals rfl
  rw [if_neg k1, if_neg k2]
  by_cases k3 : c.kind = 3
  ·rw [if_pos k3, Dr.move]
   simp only
   split <;> rfl
  rw [if_neg k3]
  by_cases k4 : c.kind = 4
  ·rw [if_pos k4, Dr.wrap]
   split
   ·rfl
   ·simp only
    split <;> rfl
  rw [if_neg k4]
  by_cases k5 : c.kind = 5
  ·rw [if_pos k5, Dr.unwrap]
   simp only
   split <;> rfl
  rw [if_neg k5]
  by_cases k6 : 6 ≤ c.kind ∧ c.kind ≤ 12
  ·rw [if_pos k6]
   have hch : ∀ a, (change a c).2.1.ents = [] := fun a => by
    rw [change]
    repeat' split
    all_goals rfl
   rw [Dr.set]
   repeat' split
   all_goals first | rfl | exact hch _
  ·rw [if_neg k6]
end
end Go.Dc
namespace Go.Proofs.YtggcpoleklcmkaaGreatDoor
open Go.Sl Go.Ls Go.Tr Go.Dc
set_option maxRecDepth 100000
set_option maxHeartbeats 8000000
attribute [local irreducible] WC WL WX WK WA WAK Val Ctr RunRes ResIs Rd At sl box pt Exit.then Exit.inBlock bodyPost Code.wp wpList
end Go.Proofs.YtggcpoleklcmkaaGreatDoor

/-
 Drawings: DocBacks. -- KS14
-/

namespace Go.Dc
open Go.Sl Go.Ls Go.Tr
inductive Und (d0 : Dr) : Dr → List Cm → Prop where
 | nil (h : Fit d0) : Und d0 d0 []
 | snoc {d d' : Dr} {bs : List Cm} {b : Cm} (h : Und d0 d bs) (hf : Fit d') (h1 : (d'.apply b).1 = d) (h2 : (d'.apply b).2.2 = 0) (h3 : b.ents.length ≤ 100000) (h4 : d'.segs + segsOf b.ents ≤ 1048576) : Und d0 d' (bs ++ [b])
theorem Und.none {d0 d : Dr} {bs : List Cm} (h : Und d0 d bs) (hb : bs = []) : d = d0 := by
 cases h with
 | nil => rfl
 | snoc => simp at hb
theorem Und.one {d0 d' : Dr} {bs : List Cm} {b : Cm} (h : Und d0 d' (bs ++ [b])) : ∃ d, Und d0 d bs ∧ Fit d' ∧ (d'.apply b).1 = d ∧ (d'.apply b).2.2 = 0 ∧ b.ents.length ≤ 100000 ∧ d'.segs + segsOf b.ents ≤ 1048576 := by
 generalize hq : bs ++ [b] = q at h
 cases h with
 | nil => simp at hq
 | snoc h hf h1 h2 h3 h4 =>
  obtain ⟨e1, e2⟩ := List.append_inj' hq rfl
  cases e2
  subst e1
  exact ⟨_, h, hf, h1, h2, h3, h4⟩
end Go.Dc
namespace Go.Proofs.YtggcpoleklcmkaaGreatDoor
open Go.Sl Go.Ls Go.Tr Go.Dc
set_option maxRecDepth 100000
set_option maxHeartbeats 8000000
attribute [local irreducible] WC WL WX WK WA WAK Val Ctr RunRes ResIs Rd At sl box pt Exit.then Exit.inBlock bodyPost Code.wp wpList
theorem dBacks (l : List Cm) (v : Value) (m : List Cm) (u : Value) (I : Mem) (hN : NeedAt I) (hv : LsAt Cm.rep I l v) (hu : LsAt Cm.rep I m u) :
  Ctr Tryz.prog 5 [v, u] I [] (KeepR [] fun v _ => v = .bool true) := by
 have hv0 := hv
 have hu0 := hu
 obtain ⟨a1, c1, rfl⟩ := hv.sl
 obtain ⟨a2, c2, rfl⟩ := hu.sl
 refine Ctr.intro Tryz.func5 rfl rfl rfl fun E F => ?_
 refine jS (jg rfl (jM (jB (jS (jc rfl ?_)))))
 refine WL.callE rfl rfl (small_ctr l 15 _ _ hv0) rfl (fun hs => ?_) (fun hs => ?_)
 case refine_2 =>
  refine jl rfl (jb rfl (jH (jH (jH (jk rfl (jM (jF (jS (WL.callP [] rfl rfl (dAwake _ hN) rfl ?_)))))))))
  rintro _ I2 _ hI2 ⟨rfl, rfl⟩
  refine jW ?_
  refine jg rfl (jM (jR (jU ?_)))
  refine jP [] (jr1 rfl (jtB rfl)) ?_
  exact ⟨rfl, rfl⟩
 refine jl rfl (jb rfl (jG (jc rfl (jG ?_))))
 refine WL.callE rfl rfl (small_ctr m 20 _ _ hu0) rfl (fun hs2 => ?_) (fun hs2 => ?_)
 case refine_2 =>
  refine jG (jl rfl (jk rfl (jM (jF (jS (WL.callP [] rfl rfl (dAwake _ hN) rfl ?_))))))
  rintro _ I2 _ hI2 ⟨rfl, rfl⟩
  refine jW ?_
  refine jg rfl (jM (jR (jU ?_)))
  refine jP [] (jr1 rfl (jtB rfl)) ?_
  exact ⟨rfl, rfl⟩
 refine jG (jl rfl (jk rfl (jM (jE (jV (jK (jc rfl (WL.callP [] rfl rfl (dPlay l _ _ hN hv0 hs.1 (by have := hs.2; omega)) rfl ?_))))))))
 rintro _ I1 _ hI1 ⟨D0, d0, g, mb, cnt, kv, at_, f, rfl, rfl, hD0, hF0, hkv, hat, hag, hsg⟩
 have hll : (l.length : Int) ≤ 15 := hs.2
 have hmm : (m.length : Int) ≤ 20 := hs2.2
 refine jW ?_
 refine je rfl (jm (Val.extractP rfl rfl) (jm (Val.extractP rfl rfl) (jm (Val.extractB rfl rfl) (ji rfl (ji rfl (jg rfl (jM (jB (jS (jb rfl (jl rfl (jM (jE (jV (jK (jh rfl (jM (jB (jS (jc rfl (jm (jo rfl) (ja rfl (jM (WC.block (WC.slNil 59 51 ?_)))))))))))))))))))))))))
 refine WC.nApp ?_
 refine WC.cutC (fun ρ' I' L' => ∃ (D : Dm) (d : Dr) (bs : List Cm) (a : Option Addr) (n : Nat), I1.le I' ∧ ρ' 5 = ptr D.b ∧ ρ' 6 = ptr g ∧ ρ' 8 = .slice a bs.length n ∧ L' = F :: mbox g mb d0.top kv :: mp mb f cnt :: D.hp ∧ DAbs I' D d ∧ Und d0 d bs ∧ LsAt Cm.rep I' bs (.slice a bs.length n) ∧ bs.length ≤ 20) ?_ ?_
 ·refine WC.loop (fun n ρ' I' L' => ∃ (k : Nat) (D : Dm) (d : Dr) (bs : List Cm) (a : Option Addr) (c : Nat) (p : HP), n = m.length - k ∧ k ≤ m.length ∧ I1.le I' ∧ ρ' 5 = ptr D.b ∧ ρ' 6 = ptr g ∧ ρ' 8 = .slice a bs.length c ∧ ρ' 33 = .slice a2 m.length c2 ∧ ρ' 34 = vi m.length ∧ ρ' 35 = vi k ∧
    L' = F :: mbox g mb d0.top kv :: mp mb f cnt :: (D.hp ++ [p]) ∧ DAbs I' D d ∧ Fit d ∧ Und d0 d bs ∧ OwnL Cm.rep 59 51 I' bs (.slice a bs.length c) p ∧ bs.length ≤ k ∧ d.segs ≤ 18000 + 1200 * (k : Int))
   m.length ⟨0, D0, d0, [], _, _, _, rfl, by omega, Mem.le.refl _, rfl, rfl, rfl, rfl, rfl, rfl, rfl, hD0, hF0, .nil hF0, OwnL.nil _ _ _ _, Nat.le_refl _, by omega⟩ ?_
  rintro n ρ' I2 L' ⟨k, D, d, bs, a, cp, p, rfl, hk, hI2, r5, r6, r8, r33, r34, r35, rfl, hD, hF, hU, hp, hbl, hsk⟩
  rw [← upd_self r35, ← upd_self r34, ← upd_self r33, ← upd_self r8, ← upd_self r6, ← upd_self r5]
  clear r35 r34 r33 r8 r6 r5
  change WC _ _ _ _ [F, mbox g mb d0.top kv, mp mb f cnt, docBox D.b D.A.b D.mb D.segs, mp D.mb D.f D.cnt, _, _, _, _, _, p] _
  have hJ := hI1.trans hI2
  by_cases hkn : k < m.length
  ·obtain ⟨bq, off, cap, cs, he, ⟨e, t, u, dd, q, rfl, hc⟩, hA⟩ := (hu0.mono hJ).get k hkn
   cases he
   have hsm := hs2.1 _ (List.getElem_mem hkn)
   generalize m[k] = c at *
   have hse := small_segs hsm
   have hle : c.ents.length ≤ 100000 := by have := hsm.1; omega
   have hc0 := hc
   obtain ⟨x0, y0, x1, y1, x2, y2, x3, y3, x4, y4, rfl, rfl, rfl, rfl, rfl⟩ := hc.sl
   refine jS (jy rfl rfl (jM (jB (jF (jV (jA (jB (WC.block (jS (jm (jZ rfl rfl) (jm (Val.loadI rfl (by assumption) rfl) ?_)))))))))))
   refine WL.alloc rfl (fun _ => ?_)
   refine jW ?_
   refine WL.stA 11 rfl rfl rfl rfl ?_
   refine jN (jd rfl (jm (jt 11 rfl rfl rfl) ?_))
   rename_i g10
   refine WL.callP [3, 3, 3, 3, 3, 3, 3] rfl rfl (dApply D d c _ _ _ _ _ _ (hN.mono hJ) hD hc0 hle hF.inv.nonneg (by omega)) rfl ?_
   rintro _ I3 _ hI3 ⟨D', bcs, rfl, ⟨e', t', u', d', q', rfl, hbk⟩, hb, rfl, hD'⟩
   have hF' := hF.apply (c := c) hD.abs hD.dom hD'.abs
   have hbf := back_fits (c := c) hD.abs hF hF'
   have hsg' := apply_segs (d := d) hsm
   have hbk0 := hbk
   obtain ⟨p0, o0, p1, o1, p2, o2, p3, o3, p4, o4, rfl, rfl, rfl, rfl, rfl⟩ := hbk.sl
   rw [← hb]
   refine jW ?_
   by_cases he : (d.apply c).2.2 = 0
   ·obtain ⟨b1, b2⟩ := apply_back hD.abs hF hD.dom hD'.abs hD'.dom he
    rw [he]
    refine je rfl (jm (Val.extractA rfl rfl) (jm (jq rfl rfl) (WL.alloc rfl (fun _ => ?_))))
    refine jW ?_
    refine WL.stA 12 rfl rfl rfl rfl ?_
    refine jf rfl (jN (ja rfl (jw rfl rfl (jM (jF (jD (jc rfl (jm (jt 12 rfl rfl rfl) (WL.buildSlice (by with_unfolding_all exact rfl) rfl (by with_unfolding_all exact rfl) rfl (fun _ => ?_))))))))))
    refine jW ?_
    rename_i g11 g49
    refine WL.appOne (y := (d.apply c).2.1) (cs := Cm.cs (d.apply c).2.1 (.slice p0 (d.apply c).2.1.ents.length o0) (.slice p1 (d.apply c).2.1.atr.sty.fill.stops.length o1) (.slice p2 (d.apply c).2.1.atr.sty.pen.stops.length o2) (.slice p3 (d.apply c).2.1.atr.sty.dash.length o3) (.slice p4 (d.apply c).2.1.atr.path.length o4)) 3 13 rfl rfl (hp.mono hI3) rfl rfl ⟨_, _, _, _, _, rfl, hbk0⟩ rfl rfl (by rfl) (by decide) (by omega) (by unfold maxLen; omega) rfl fun aa cc p' hp' => ?_
    refine WL.nSet ?_
    have hbl1 : (bs ++ [(d.apply c).2.1]).length = bs.length + 1 := by rw [List.length_append]; rfl
    refine jh rfl (jC (WX.inNormal (jA (jD (jX rfl rfl (ja rfl (jC (WX.conv (fun w h => h.sub [0, 0, 0, 2, 2, 2, 2, 2, 2, 2, 0] rfl) ?_))))))))
    exact WX.thenK (WK.round (m.length - (k + 1)) (by omega) ⟨k + 1, D', (d.apply c).1, bs ++ [(d.apply c).2.1], aa, cc, p', rfl, by omega, hI2.trans hI3, rfl, rfl, by rw [hbl1]; rfl, rfl, rfl, rfl, rfl, hD', hF', .snoc hU hF' b1 b2 hbf.1 hbf.2, by rw [hbl1]; exact hp', by omega, by omega⟩)
   ·obtain ⟨q1, q2⟩ := apply_err he
    rw [q1] at hD'
    refine je rfl (jm (Val.extractA rfl rfl) (jm (jq rfl rfl) (WL.alloc rfl (fun _ => ?_))))
    refine jW ?_
    refine WL.stA 12 rfl rfl rfl rfl ?_
    refine jf rfl (jN (ja rfl (jv rfl rfl (jM (jE (jV (WX.inNormal (jA (jD (jX rfl rfl (ja rfl (jC (WX.conv (fun w h => h.sub [0, 0, 0, 2, 2, 2, 2, 2, 2, 2, 0] rfl) ?_)))))))))))))
    exact WX.thenK (WK.round (m.length - (k + 1)) (by omega) ⟨k + 1, D', d, bs, a, cp, p, rfl, by omega, hI2.trans hI3, rfl, rfl, rfl, rfl, rfl, rfl, rfl, hD', hF, hU, hp.mono hI3, by omega, by omega⟩)
  ·have hkl : k = m.length := by omega
   subst hkl
   refine WC.freezeL 10 rfl hp fun I3 hI3 hw => ?_
   refine jS (jx rfl rfl (jM (jB (jE (WC.exit (WX.thenExit (WX.thenExit (WX.inHit ?_))))))))
   refine WX.thenK (WK.meet ?_)
   exact ⟨D, d, bs, a, cp, hI2.trans hI3, rfl, rfl, rfl, rfl, hD.mono hI3, hU, hw, by omega⟩
 rintro ρ' I2 L' ⟨D, d, bs, a, n, hI2, r5, r6, r8, rfl, hD, hU, hbs, hbl⟩
 rw [← upd_self r8, ← upd_self r6, ← upd_self r5]
 clear r8 r6 r5
 have hJ2 := hI1.trans hI2
 refine jB (jS (jc rfl (jm (jo rfl) (jm (Val.sub rfl rfl (wrap_i64 (by omega) (by omega))) ?_))))
 refine jf rfl (jM (WC.block ?_))
 refine WC.loop (fun n' ρ' I' L' => ∃ (k : Nat) (D : Dm) (d : Dr), n' = k ∧ k ≤ bs.length ∧ I2.le I' ∧ ρ' 5 = ptr D.b ∧ ρ' 6 = ptr g ∧ ρ' 8 = .slice a bs.length n ∧ ρ' 13 = vi ((k : Int) - 1) ∧
   L' = F :: mbox g mb d0.top kv :: mp mb f cnt :: D.hp ∧ DAbs I' D d ∧ Und d0 d (bs.take k))
  bs.length ⟨bs.length, D, d, rfl, Nat.le_refl _, Mem.le.refl _, rfl, rfl, rfl, rfl, rfl, hD, by rw [List.take_length]; exact hU⟩ ?_
 clear hD hU
 rintro k ρ' I3 L' ⟨_, D, d, rfl, hk, hI3, r5, r6, r8, r13, rfl, hD, hU⟩
 rw [← upd_self r13, ← upd_self r8, ← upd_self r6, ← upd_self r5]
 clear r13 r8 r6 r5
 have hJ3 := hJ2.trans hI3
 by_cases hk0 : k = 0
 ·subst hk0
  have hdd := hU.none (List.take_zero)
  subst hdd
  refine jB (jS (ja rfl (jm (Val.geq rfl rfl (decide_eq_false (by omega))) ?_)))
  refine jM (jE (WC.exit (WX.thenExit (WX.thenExit (WX.inHit (jK (jd rfl (jd rfl (WL.callR [1, 1, 1, 1, 1, 1, 1, 1, 1] rfl rfl rfl (mIs D d _ hD hF0.inv kv at_ f g mb cnt (hkv.mono (hI2.trans hI3)) (hat.mono (hI2.trans hI3)) hag) rfl ?_)))))))))
  rintro _ I4 hI4 rfl
  refine jb rfl (jG (WL.callP [] rfl rfl (dAwake _ (hN.mono (hJ3.trans hI4))) rfl ?_))
  rintro _ I5 _ hI5 ⟨rfl, rfl⟩
  refine jW ?_
  have hJ := (hJ3.trans hI4).trans hI5
  refine jk rfl (jg rfl (jM (jR ?_)))
  refine jP [] (jr1 rfl (jtB rfl)) ?_
  exact ⟨rfl, rfl⟩
 ·obtain ⟨j, rfl⟩ : ∃ j, k = j + 1 := ⟨k - 1, by omega⟩
  have hj : j < bs.length := by omega
  have hj1 : ((j + 1 : Nat) : Int) - 1 = j := by omega
  rw [List.take_succ_eq_append_getElem hj] at hU
  obtain ⟨d1, hU1, hF, b1, b2, b3, b4⟩ := hU.one
  obtain ⟨bq, off, cap, cs, he, ⟨e, t, u, dd, q, rfl, hc⟩, hA⟩ := (hbs.mono hI3).get j hj
  cases he
  generalize bs[j] = c at *
  rw [hj1]
  have hc0 := hc
  obtain ⟨x0, y0, x1, y1, x2, y2, x3, y3, x4, y4, rfl, rfl, rfl, rfl, rfl⟩ := hc.sl
  refine jB (jS (ja rfl (jm (Val.geq rfl rfl (decide_eq_true (by omega))) ?_)))
  refine jM (jF (jV (jA (jB (WC.block (jS (jd rfl (jc rfl (ja rfl (jm (jZ rfl rfl) (jm (Val.loadI rfl (by assumption) rfl) ?_)))))))))))
  refine WL.callP [3, 3, 3, 3, 3, 3, 3] rfl rfl (dApply D d c _ _ _ _ _ _ (hN.mono hJ3) hD hc0 b3 hF.inv.nonneg b4) rfl ?_
  rintro _ I4 _ hI4 ⟨D', bcs, rfl, ⟨e', t', u', d', q', rfl, hbk⟩, hb, rfl, hD'⟩
  obtain ⟨_, _, _, _, _, _, _, _, _, _, rfl, rfl, rfl, rfl, rfl⟩ := hbk.sl
  rw [b1] at hD'
  rw [← hb, b2]
  refine jW ?_
  refine je rfl (jm (Val.extractA rfl rfl) (jm (jq rfl rfl) (WL.alloc rfl (fun _ => ?_))))
  refine jW ?_
  refine WL.stA 10 rfl rfl rfl rfl ?_
  refine jf rfl (jN (ja rfl (jz rfl rfl (jM (jE (jV (WX.inNormal (jA (jD (ja rfl (jm (Val.sub rfl rfl (wrap_i64 (by omega) (by omega))) ?_)))))))))))
  refine jf rfl (jC (WX.conv (fun w h => h.sub [0, 0, 0, 0, 0, 0, 0, 0, 0, 0] rfl) ?_))
  exact WX.thenK (WK.round j (by omega) ⟨j, D', d1, rfl, by omega, hI3.trans hI4, rfl, rfl, rfl, rfl, rfl, hD', hU1⟩)
end Go.Proofs.YtggcpoleklcmkaaGreatDoor
