/-
 Drawings, the law's model: has a drawing just what the model has? -- KS14
-/
import Derived.Test.YtggcpoleklcmkaaGreatDoorX2
import Derived.Test.YtggcpoleklcmkaaGreatDoorX14
import Derived.Test.YtggcpoleklcmkaaGreatDoorX3
set_option linter.unusedVariables false
set_option linter.unusedSimpArgs false
set_option maxRecDepth 100000
set_option maxHeartbeats 8000000
namespace Go.Dc
open Go.Sl Go.Ls Go.Tr
def Agr (at_ : Int → Option Atr) (d : Dr) : Prop := ∀ i ∈ d.top.order, i ≠ 0 → at_ i = d.at_ i
theorem entss_re (at_ : Int → Atr) (l : List Nd) : (entss at_ l).map Ent.re = lsts l := by
 have h := ents_re at_ (.mk 0 false l)
 rw [ents_eq, lst_eq] at h
 simp only [List.map_cons] at h
 injection h
theorem entries_eq (d : Dr) : d.entries = entss d.get d.top.kids := by rw [Dr.entries, ents_eq]; rfl
theorem entries_atr {d : Dr} {x : Ent} (h : x ∈ d.entries) : x ∈ ents d.get d.top := List.mem_of_mem_tail h
theorem entries_id {A : Ar} {d : Dr} (hA : Abs A d.top) {x : Ent} (h : x ∈ d.entries) : x.id ∈ d.top.order ∧ x.id ≠ 0 := by
 have h1 : x.id ∈ Nd.orders d.top.kids := by
  have hi := ents_ids d.get d.top
  rw [ents_eq, Nd.order_eq, List.map_cons] at hi
  injection hi with _ hi
  rw [← hi, ← entries_eq]
  exact List.mem_map_of_mem h
 refine ⟨Nd.orders_kids h1, fun e => ?_⟩
 have ho := hA.od
 rw [Nd.order_eq, List.nodup_cons] at ho
 rw [e, ← hA.id0] at h1
 exact ho.1 h1
theorem entries_segs {A : Ar} {d : Dr} (hi : DInv d) (hA : Abs A d.top) (h0 : d.at_ 0 = none) : segsOf d.entries = d.segs := by
 have h1 := segsOf_ents d.get d.top
 rw [ents_eq] at h1
 have h2 : (d.get d.top.id).path.length = 0 := by rw [hA.id0, Dr.get, h0]; rfl
 have h3 : ((d.get d.top.id).path.length : Int) + segsOf (entss d.get d.top.kids) = tot (fun i => ((d.get i).path.length : Int)) d.top.gs := h1
 rw [h2] at h3
 rw [entries_eq, hi.seg]
 have h4 : tot (fun i => ((d.get i).path.length : Int)) d.top.gs = tot d.len d.top.gs := rfl
 rw [← h4, ← h3]
 simp
end Go.Dc
namespace Go.Proofs.YtggcpoleklcmkaaGreatDoor
open Go.Sl Go.Ls Go.Tr Go.Dc
attribute [local irreducible] WC WL WX WK WA WAK Val Ctr RunRes ResIs Rd At sl box pt Exit.then Exit.inBlock bodyPost Code.wp wpList
theorem mIs (D : Dm) (d : Dr) (I : Mem) (hD : DAbs I D d) (hi : DInv d) (kv : Value) (at_ : Int → Option Atr) (f : Int → Option Value) (g mb cnt : Nat) (hkv : LsAt Nd.Rp I d.top.kids kv) (hat : AtRep I at_ f) (hag : Agr at_ d) :
  Ctr Tryz.prog 25 [ptr g, ptr D.b] I (mbox g mb d.top kv :: mp mb f cnt :: D.hp) (KeepR (mbox g mb d.top kv :: mp mb f cnt :: D.hp) fun v _ => v = .bool true) := by
 have hsz := hD.abs.size_le
 have hpos := d.top.size_pos
 have hit : I64 d.top.id := by rw [hD.abs.id0]; exact ⟨by decide, by decide⟩
 have hkv0 := hkv
 have h00 : d.at_ 0 = none := by
  cases h : d.at_ 0 with
  | none => rfl
  | some a => exact absurd rfl ((hD.dom 0).1 (by rw [h]; rfl)).1
 have hseg := entries_segs hi hD.abs h00
 have hll := lst_len d.top
 have hrr : d.entries.map Ent.re = lsts d.top.kids := by rw [entries_eq]; exact entss_re _ _
 have hell : d.entries.length = d.top.size - 1 := by
  rw [Dr.entries, List.length_tail, ents_len]
 have hlim : ∀ x ∈ d.entries, x.atr.path.length ≤ 1000000 := fun x hx => by
  rw [ents_atr (entries_atr hx)]
  show ((d.at_ x.id).getD Atr.z).path.length ≤ _
  cases h : d.at_ x.id with
  | none => exact Nat.zero_le _
  | some a => exact (hD.lim _ _ h).1
 obtain ⟨ka, kc, rfl⟩ := hkv.sl
 refine Ctr.intro Tryz.func25 rfl rfl rfl fun E F => ?_
 refine jS (jg rfl (jN (jd rfl (jm (jr rfl) (jm (jn rfl) (jm (jt 1 rfl rfl rfl) (WL.callR [] rfl rfl rfl (list_ctr _ d.top (Nat.le_refl _) _ _ (by omega) hkv0 hit) rfl ?_)))))))
 rintro v1 I1 hI1 hv1
 obtain ⟨b1, o1, p1, cs1, he1, _, _⟩ := hv1.get 0 (by omega)
 subst he1
 have hw1 := hv1.drop2 1 (by omega)
 have hcp := hv1.cap
 refine jm (Val.sliceFrom2 (m := 1) rfl rfl (by omega) (by omega)) ?_
 have hdl : (lst d.top).drop 1 = lsts d.top.kids := by rw [lst_eq]; rfl
 rw [hdl] at hw1
 have hw10 := hw1
 obtain ⟨wa, wc, hw1e⟩ := hw1.sl
 rw [hw1e] at hw10 ⊢
 refine jh rfl (jN (jd rfl (WL.callR [3, 3, 3, 3, 3, 3, 3] rfl rfl rfl (dEntries D d _ (hD.mono hI1)) rfl ?_)))
 rintro v2 I2 hI2 hv2
 have hv20 := hv2
 obtain ⟨ea, ec, rfl⟩ := hv2.sl
 have hlen : (lsts d.top.kids).length = d.entries.length := by rw [← hrr, List.length_map]
 rw [hlen] at hw10 ⊢
 refine jh rfl (jM (jB (jS (jc rfl (jm (jo rfl) (jc rfl (jm (jo rfl) (jz rfl rfl (jM (jE (jV (jK (jf rfl (jM (jB (jS (jc rfl (WL.callR [] rfl rfl rfl (refs_ctr d.entries _ _ hv20 (by omega)) rfl ?_))))))))))))))))))
 rintro v3 I3 hI3 hv3
 rw [hrr] at hv3
 have hv30 := hv3
 obtain ⟨ra, rc, rfl⟩ := hv3.sl
 rw [hlen] at hv30 ⊢
 have hJ2 := hI1.trans hI2
 have hJ3 := hJ2.trans hI3
 refine jm (jo rfl) (ja rfl (jM (WC.block ?_)))
 refine WC.loop (fun n ρ' I' L' => ∃ k : Nat, n = d.entries.length - k ∧ k ≤ d.entries.length ∧ I3.le I' ∧ ρ' 0 = ptr g ∧ ρ' 1 = ptr D.b ∧ ρ' 5 = .slice wa d.entries.length wc ∧ ρ' 6 = .slice ea d.entries.length ec ∧ ρ' 7 = vi (segsOf (d.entries.take k)) ∧ ρ' 26 = .slice ra d.entries.length rc ∧ ρ' 27 = vi d.entries.length ∧ ρ' 28 = vi k ∧
   L' = F :: mbox g mb d.top (.slice ka d.top.kids.length kc) :: mp mb f cnt :: D.hp)
  d.entries.length ⟨0, rfl, by omega, Mem.le.refl _, rfl, rfl, rfl, rfl, rfl, rfl, rfl, rfl, rfl⟩ ?_
 rintro n ρ' I4 L' ⟨k, rfl, hk, hI4, r0, r1, r5, r6, r7, r26, r27, r28, rfl⟩
 refine ju8 r28 r27 r26 r7 r6 r5 r1 r0 ?_
 have hJ4 := hJ3.trans hI4
 by_cases hkn : k < d.entries.length
 ·obtain ⟨b5, off5, cap5, cs5, he5, ⟨t5, u5, d5, q5, rfl, hx⟩, hA5⟩ := (hv20.mono (hI3.trans hI4)).get k hkn
  cases he5
  have hwk := (hw10.mono (hI2.trans (hI3.trans hI4))).get k (by rw [hlen]; exact hkn)
  have hrk := (hv30.mono hI4).get k (by rw [hlen]; exact hkn)
  have hge : ∀ (h : k < (lsts d.top.kids).length), (lsts d.top.kids)[k] = (d.entries[k]).re := fun h => by
   simp only [← hrr, List.getElem_map]
  rw [hge] at hwk hrk
  obtain ⟨b6, off6, cap6, cs6, he6, ⟨rfl, hx6, hx7⟩, hA6⟩ := hwk
  injection he6 with h61 _ h62
  subst h61; subst h62
  obtain ⟨b7, off7, cap7, cs7, he7, ⟨rfl, hx8, hx9⟩, hA7⟩ := hrk
  injection he7 with h71 _ h72
  subst h71; subst h72
  have hmem := List.getElem_mem hkn
  obtain ⟨hid, hid0⟩ := entries_id hD.abs hmem
  have hxat := ents_atr (entries_atr hmem)
  have htk : segsOf (d.entries.take (k + 1)) = segsOf (d.entries.take k) + (d.entries[k]).atr.path.length := by rw [List.take_succ_eq_append_getElem hkn, segsOf_snoc]
  have hb1 := segsOf_le (m := 1000000) (l := d.entries.take k) fun x hx => hlim x (List.mem_of_mem_take hx)
  have hb0 := segsOf_nonneg (d.entries.take k)
  have hb2 := hlim _ hmem
  rw [List.length_take, Nat.min_eq_left (by omega)] at hb1
  generalize hy : d.entries[k] = y at *
  obtain ⟨ta, ua, da, qa, hv, haa⟩ := (hat.mono hJ4).get y.id
  have hgt : (at_ y.id).getD Atr.z = y.atr := by rw [hag _ hid hid0, hxat]; rfl
  rw [hgt] at haa hv
  have hgs : (d.at_ y.id).isSome = true := (hD.dom y.id).2 ⟨hid0, hid⟩
  have hx0 := hx
  have haa0 := haa
  obtain ⟨z1, w1, z2, w2, z3, w3, z4, w4, rfl, rfl, rfl, rfl⟩ := hx.sl
  obtain ⟨a1, c1, a2, c2, a3, c3, a4, c4, rfl, rfl, rfl, rfl⟩ := haa.sl
  refine jS (jy rfl rfl (jM (jB (jF (jV (jA (jB (WC.block (jS (ja rfl (jm (jZ rfl rfl) (jm (Val.loadI rfl (by assumption) rfl) ?_))))))))))))
  refine WL.alloc rfl (fun _ => ?_)
  refine jW ?_
  refine jf rfl (WL.stA 10 rfl rfl rfl rfl ?_)
  refine jN (jd rfl (jm (jn rfl) (jm (jp 10 rfl rfl rfl) (WL.callR [3, 3] rfl rfl rfl (dGet d.at_ D.f D.b D.A.b D.mb D.cnt D.segs y.id _ (hD.rep.mono hJ4) hD.lim) rfl ?_))))
  rintro _ I5 hI5 ⟨_, rfl, ⟨s1, s2, s3, s4, rfl, hsa⟩⟩
  rw [show (d.at_ y.id).getD Atr.z = y.atr from hxat.symm] at hsa ⊢
  rw [hgs]
  have hsa0 := hsa
  obtain ⟨m1, n1, m2, n2, m3, n3, m4, n4, rfl, rfl, rfl, rfl⟩ := hsa.sl
  refine je rfl (jm (Val.extractA rfl rfl) (jm (Val.extractB rfl rfl) (WL.alloc rfl (fun _ => ?_))))
  refine jW ?_
  refine WL.stA 11 rfl rfl rfl rfl ?_
  refine jg rfl (jM (jB (jB ?_)))
  have hA5' := hA5.mono hI5
  have hA6' := hA6.mono hI5
  have hJ5 := hJ4.trans hI5
  have hA53 : At I5 b5 (off5 + (k : Int).toNat * 37 + 3) (Atr.cs y.atr (.slice z1 y.atr.sty.fill.stops.length w1) (.slice z2 y.atr.sty.pen.stops.length w2) (.slice z3 y.atr.sty.dash.length w3) (.slice z4 y.atr.path.length w4)) := At.sub 34 hA5' rfl
  have haa5 := haa0.mono hI5
  have hxa5 := hx0.atr.mono hI5
  refine j8 999 [1, 1, 8, 8] rfl (jT 0 rfl (jt 2 rfl rfl rfl) (jT 1 rfl (Val.moveS rfl) (jT 2 rfl (Val.moveI rfl) (jT 3 rfl (jZ rfl rfl) (jT 4 rfl (Val.loadI rfl (by assumption) rfl) ?_)))))
  refine jT 5 rfl (Val.neqSame rfl rfl rfl) ?_
  refine jT 6 rfl (Val.moveB rfl) (jT 7 rfl (Val.moveS rfl) (jT 8 rfl (Val.moveI rfl) (jT 9 rfl (jZ rfl rfl) (jT 10 rfl (jn rfl) (jT 11 rfl (Val.loadI rfl (by assumption) rfl) ?_)))))
  refine jT 12 rfl (Val.moveP rfl) (jT 13 rfl (jr rfl) (jT 14 rfl (jn rfl) (jT 15 rfl (jp 0 rfl rfl rfl) (jT 16 rfl (jn rfl) (jT 17 rfl (jp 2 rfl rfl rfl) (jT 18 rfl (Val.lookup1v 1 hv rfl rfl rfl) ?_))))))
  refine j5 19 rfl (jG ?_)
  refine WL.callE rfl rfl (eqAtr y.atr y.atr _ _ _ _ _ _ _ _ _ hxa5 haa5) rfl (fun h => ?_) (fun h => absurd rfl h)
  refine jC (j7 [1, 1, 8, 8] rfl (jT 20 rfl (Val.not rfl) (jT 21 rfl (Val.pick rfl) (jT 22 rfl (Val.moveB rfl) (jT 23 rfl (Val.moveB rfl) (jT 24 rfl (Val.not rfl) (jT 25 rfl (Val.pick rfl) (jT 26 rfl (Val.moveB rfl) (jT 27 rfl (jt 3 rfl rfl rfl) (jT 28 rfl (Val.moveS rfl) (jT 29 rfl (Val.moveI rfl) (jT 30 rfl (jZ rfl rfl) (jT 31 rfl (jn rfl) (jT 32 rfl (Val.loadI rfl (by assumption) rfl) ?_))))))))))))))
  refine j5 33 rfl (jG ?_)
  refine WL.callE rfl rfl (eqAtr y.atr y.atr _ _ _ _ _ _ _ _ _ hsa0 hxa5) rfl (fun h => ?_) (fun h => absurd rfl h)
  refine jC (j7 [1, 1, 8, 8] rfl (jT 34 rfl (Val.not rfl) (jT 35 rfl (Val.pick rfl) (j6 (jA (jE (jV (jA (jD (ja rfl (jm (jn rfl) (jm (jp 11 rfl rfl rfl) (jm (jo rfl) (jX rfl rfl (jf rfl (jC (WX.inNormal (jA (jD (jX rfl rfl (ja rfl (jC (WX.conv (fun w h => h.sub [0, 0, 0, 0, 0, 0, 0, 0, 0, 0] rfl) ?_)))))))))))))))))))))))
  refine WX.thenK (WK.round (d.entries.length - (k + 1)) (by omega) ⟨k + 1, rfl, by omega, hI4.trans hI5, rfl, rfl, rfl, rfl, ?_, rfl, rfl, rfl, rfl⟩)
  rw [htk]; rfl
 ·have hke : k = d.entries.length := by omega
  subst hke
  rw [List.take_length, hseg]
  refine jS (jx rfl rfl (jM (jB (jE (WC.exit (WX.thenExit (WX.thenExit (WX.inHit (jK (jd rfl (WL.callK [3] rfl rfl rfl (dNodes D.b D.A.b D.mb D.segs _) rfl ?_)))))))))))
  rintro _ rfl
  rw [hD.segs]
  refine ja rfl (jw rfl rfl (jg rfl (jM (jR ?_))))
  exact jP [0, 0, 0, 0, 0, 0, 0, 0, 0] (jr1 rfl (jtB rfl)) ⟨rfl, rfl⟩
end Go.Proofs.YtggcpoleklcmkaaGreatDoor

namespace Go.Dc
open Go.Sl Go.Ls Go.Tr
theorem putAll_mem : ∀ {l : List Ent} {f g : Int → Option Atr} {i : Int}, i ∈ l.map Ent.id → putAll f l i = putAll g l i
 | [], _, _, _, h => by cases h
 | x :: l, f, g, i, h => by
  rw [putAll, putAll]
  by_cases hi : i ∈ l.map Ent.id
  ·exact putAll_mem hi
  ·rw [putAll_ne hi, putAll_ne hi]
   have : i = x.id := by
    rcases List.mem_cons.1 h with h | h
    ·exact h
    ·exact absurd h hi
   rw [upAt, upAt, if_pos this, if_pos this]
theorem agr_put {l : List Ent} {f g : Int → Option Atr} {i : Int} (h : i ∉ l.map Ent.id → f i = g i) : putAll f l i = putAll g l i := by
 by_cases hi : i ∈ l.map Ent.id
 ·exact putAll_mem hi
 ·rw [putAll_ne hi, putAll_ne hi, h hi]
section
variable {A B : Ar} {d : Dr} {c : Cm} {at_ : Int → Option Atr}
theorem mset_set (hA : Abs A d.top) (hdom : ∀ i, (d.at_ i).isSome = true ↔ i ≠ 0 ∧ i ∈ d.top.order) (hag : Agr at_ d) (hs : d.segs + 1200 ≤ 1048576) (hsm : c.small) :
  (mset d.top at_ c).2 = (d.set c).2.2 ∧ Agr (mset d.top at_ c).1 (d.set c).1 := by
 by_cases h0 : c.id = 0
 ·rw [mset, if_pos h0, Dr.set, if_pos h0]; exact ⟨rfl, hag⟩
 have hf : (Nd.find c.id d.top).isSome = true ↔ c.id ∈ d.top.order := Nd.find_some c.id d.top
 rw [mset, if_neg h0, Dr.set, if_neg h0]
 cases ha : d.at_ c.id with
 | none =>
  have : (Nd.find c.id d.top).isSome = false := by
   cases h : (Nd.find c.id d.top).isSome with
   | false => rfl
   | true =>
    have := (hdom c.id).2 ⟨h0, hf.1 h⟩
    rw [ha] at this; cases this
  rw [if_pos this]
  exact ⟨rfl, hag⟩
 | some a =>
  have hin := ((hdom c.id).1 (by rw [ha]; rfl)).2
  have hfs := hf.2 hin
  rw [if_neg (by rw [hfs]; decide)]
  have hga : (at_ c.id).getD Atr.z = a := by rw [hag _ hin h0, ha]; rfl
  rw [hga]
  have hgr : ((Nd.find c.id d.top).getD Nd.zero).grp = ((Nd.find c.id d.top).map Nd.grp).getD false := by
   cases Nd.find c.id d.top <;> rfl
  rw [hgr]
  simp only
  by_cases hg : 8 ≤ c.kind ∧ ((Nd.find c.id d.top).map Nd.grp).getD false = true
  ·rw [if_pos hg, if_pos hg]; exact ⟨rfl, hag⟩
  rw [if_neg hg, if_neg hg]
  by_cases he : (change a c).2.2 ≠ 0
  ·rw [if_pos he, if_pos he]; exact ⟨rfl, hag⟩
  rw [if_neg he, if_neg he]
  have hle := change_le (a := a) hsm
  have hm : ¬ mostSegs < d.segs + (change a c).1.path.length - a.path.length := by
   show ¬ (1048576 : Int) < _
   omega
  rw [if_neg hm]
  refine ⟨rfl, fun i hi hi0 => ?_⟩
  show upAt at_ c.id _ i = upAt d.at_ c.id _ i
  rw [upAt, upAt, hag i hi hi0]
theorem mdo_apply (hA : Abs A d.top) (hi : DInv d) (hdom : ∀ i, (d.at_ i).isSome = true ↔ i ≠ 0 ∧ i ∈ d.top.order) (hag : Agr at_ d) (hs : d.segs + 1200 ≤ 1048576) (hsm : c.small) :
  (mdo d.top at_ c).1 = (d.apply c).1.top ∧ (mdo d.top at_ c).2.2 = (d.apply c).2.2 ∧ Agr (mdo d.top at_ c).2.1 (d.apply c).1 := by
 rw [mdo, Dr.apply]
 by_cases k1 : c.kind = 1
 ·rw [if_pos k1, if_pos k1, Dr.add]
  by_cases hW : ¬ Whole c.ents
  ·rw [if_pos hW, if_pos hW]; exact ⟨rfl, rfl, hag⟩
  rw [if_neg hW, if_neg hW]
  by_cases hw : firstWrong c.ents ≠ 0
  ·rw [if_pos hw, if_pos hw]; exact ⟨rfl, rfl, hag⟩
  rw [if_neg hw, if_neg hw]
  have hse := small_segs hsm
  rw [if_neg (show ¬ mostSegs - d.segs < segsOf c.ents by show ¬ (1048576 : Int) - d.segs < _; omega)]
  obtain ⟨n, hn⟩ := (Whole_iff _).1 (Decidable.of_not_not hW)
  have hids := Tk_order hn
  simp only [List.map_nil, List.append_nil] at hids
  rw [nodeOf_eq hn]
  by_cases he : (Nd.add d.top c.parent c.index n).2 = 0
  ·rw [if_pos he, if_neg (fun e => e he)]
   refine ⟨rfl, he, fun i hi hi0 => agr_put fun hni => ?_⟩
   have hc := Nd.count_add hA.od he i
   rw [hids] at hni
   have h1 : i ∈ d.top.order := by
    rw [mem_count]
    have h2 := mem_count.1 (show i ∈ (Nd.add d.top c.parent c.index n).1.order from hi)
    have h3 : n.order.count i = 0 := List.count_eq_zero_of_not_mem hni
    omega
   exact hag i h1 hi0
  ·rw [if_neg he, if_pos he]
   exact ⟨Nd.add_err he, rfl, hag⟩
 rw [if_neg k1, if_neg k1]
 by_cases k2 : c.kind = 2
 ·rw [if_pos k2, if_pos k2, Dr.remove]
  simp only
  by_cases he : (Nd.remove d.top c.id).2.2.2.2 = 0
  ·rw [if_neg (fun e => e he)]
   refine ⟨rfl, he, fun i hi hi0 => ?_⟩
   obtain ⟨o1, o2, o3, o4, o5⟩ := hA.rem_nodup he
   have hc := hA.count_rem he i
   have h1 : i ∈ d.top.order := by
    rw [mem_count]
    have h2 := mem_count.1 (show i ∈ (Nd.remove d.top c.id).1.order from hi)
    omega
   show at_ i = dropAll d.at_ _ i
   rw [dropAll_ne (by rw [ents_ids]; exact o3 i hi)]
   exact hag i h1 hi0
  ·rw [if_pos he]
   refine ⟨?_, rfl, hag⟩
   rcases hA.rem c.id with ⟨_, h⟩ | ⟨p, k, hk, _, _, _, _, _, e, _⟩
   ·exact h
   ·rw [e] at he; exact absurd rfl he
 rw [if_neg k2, if_neg k2]
 by_cases k3 : c.kind = 3
 ·rw [if_pos k3, if_pos k3, Dr.move]
  simp only
  by_cases he : (Nd.move d.top c.id c.parent c.index).2 = 0
  ·rw [if_neg (fun e => e he)]
   refine ⟨rfl, he, fun i hi hi0 => hag i ?_ hi0⟩
   have hc := hA.count_move he i
   rw [mem_count] at hi ⊢
   have h2 : 0 < (Nd.move d.top c.id c.parent c.index).1.order.count i := hi
   omega
  ·rw [if_pos he]
   exact ⟨Nd.move_err he, rfl, hag⟩
 rw [if_neg k3, if_neg k3]
 by_cases k4 : c.kind = 4
 ·rw [if_pos k4, if_pos k4, Dr.wrap]
  by_cases hw : c.atr.check true ≠ 0
  ·rw [if_pos hw, if_pos hw]; exact ⟨rfl, rfl, hag⟩
  rw [if_neg hw, if_neg hw]
  simp only
  by_cases he : (Nd.wrap d.top c.id c.parent c.index c.count).2 = 0
  ·rw [if_pos he, if_neg (fun e => e he)]
   refine ⟨rfl, he, fun i hi hi0 => ?_⟩
   show upAt at_ c.id _ i = upAt d.at_ c.id _ i
   rw [upAt, upAt]
   by_cases hic : i = c.id
   ·rw [if_pos hic, if_pos hic]
   ·rw [if_neg hic, if_neg hic]
    have hc := Nd.count_wrap hA.od he i
    rw [if_neg (fun e => hic e.symm)] at hc
    refine hag i ?_ hi0
    rw [mem_count] at hi ⊢
    have h2 : 0 < (Nd.wrap d.top c.id c.parent c.index c.count).1.order.count i := hi
    omega
  ·rw [if_neg he, if_pos he]
   exact ⟨Nd.wrap_err he, rfl, hag⟩
 rw [if_neg k4, if_neg k4]
 by_cases k5 : c.kind = 5
 ·rw [if_pos k5, if_pos k5, Dr.unwrap]
  simp only
  by_cases he : (Nd.unwrap d.top c.id).2.2.2.2 = 0
  ·rw [if_neg (fun e => e he)]
   refine ⟨rfl, he, fun i hi hi0 => ?_⟩
   have hc := hA.count_unwrap he i
   have h2 : 0 < (Nd.unwrap d.top c.id).1.order.count i := mem_count.1 hi
   have h3 := nodup_count hA.od i
   show at_ i = downAt d.at_ c.id i
   have hic : ¬ i = c.id := fun e => by rw [if_pos e.symm] at hc; omega
   rw [downAt, if_neg hic]
   rw [if_neg (fun e => hic e.symm)] at hc
   refine hag i ?_ hi0
   rw [mem_count]
   omega
  ·rw [if_pos he]
   exact ⟨Nd.unwrap_err he, rfl, hag⟩
 rw [if_neg k5, if_neg k5]
 by_cases k6 : 6 ≤ c.kind ∧ c.kind ≤ 12
 ·rw [if_pos k6, if_pos k6]
  obtain ⟨h1, h2⟩ := mset_set hA hdom hag hs hsm
  exact ⟨set_top.symm, h1, h2⟩
 ·rw [if_neg k6, if_neg k6]; exact ⟨rfl, rfl, hag⟩
end
end Go.Dc

namespace Go.Proofs.YtggcpoleklcmkaaGreatDoor
open Go.Sl Go.Ls Go.Tr Go.Dc
attribute [local irreducible] WC WL WX WK WA WAK Val Ctr RunRes ResIs Rd At sl box pt Exit.then Exit.inBlock bodyPost Code.wp wpList
def DPlayR (n : Nat) : Value → Mem → List HP → Prop := fun v I' L' => ∃ (D : Dm) (d : Dr) (g mb cnt : Nat) (kv : Value) (at_ : Int → Option Atr) (f : Int → Option Value), v = .tuple #[ptr D.b, ptr g, .bool true] ∧ L' = mbox g mb d.top kv :: mp mb f cnt :: D.hp ∧
 DAbs I' D d ∧ Fit d ∧ LsAt Nd.Rp I' d.top.kids kv ∧ AtRep I' at_ f ∧ Agr at_ d ∧ d.segs ≤ 1200 * (n : Int)
theorem dPlay (l : List Cm) (v : Value) (I : Mem) (hN : NeedAt I) (hv : LsAt Cm.rep I l v) (hs : ∀ c ∈ l, c.small) (hl : l.length ≤ 200) : Ctr Tryz.prog 23 [v] I [] (DPlayR l.length) := by
 have hv0 := hv
 obtain ⟨a1, c1, rfl⟩ := hv.sl
 refine Ctr.intro Tryz.func23 rfl rfl rfl fun E F => ?_
 refine jS (ji rfl (ji rfl (jg rfl (jN (WL.callP [] rfl rfl (dNew _) rfl ?_)))))
 rintro _ I1 _ _ ⟨rfl, b, tb, mb0, cg, db, rfl, rfl⟩
 have hD0 := new_abs I1 b mb0 cg db tb
 generalize hDe : ({ b := db, A := Ar.fresh b mb0 cg, mb := tb, f := fun _ => none, cnt := 0, segs := 0 } : Dm) = D0 at hD0
 have hL0 : docBox db b tb 0 :: mp tb (fun _ => none) 0 :: (Ar.fresh b mb0 cg).hp = D0.hp := by rw [← hDe]; rfl
 have hb0 : db = D0.b := by rw [← hDe]
 rw [hL0, hb0]
 clear hL0 hb0 hDe
 refine jW ?_
 refine ji rfl (jN (jm (Val.build (cs := [vi 0, .bool true, .slice none 0 0]) rfl) ?_))
 refine WL.makeMap rfl fun mb => ?_
 refine jW ?_
 refine jm (Val.build (cs := [vi 0, .bool true, .slice none 0 0, .map (some mb)]) rfl) ?_
 refine WL.boxA rfl rfl (fun _ => ?_)
 refine jW ?_
 refine ji rfl (jM (jB (jS (jd rfl ?_))))
 rename_i g
 refine jm (Val.eqlNilP rfl) ?_
 refine jM (jE (jV (jA (jB (jS (jc rfl (jm (jo rfl) (ja rfl (jM (WC.block (WC.conv (fun w h => h.sub [0, 8, 7, 0, 0, 0, 0, 0, 0, 0] rfl) ?_)))))))))))
 refine WC.loop (fun n ρ' I' L' => ∃ (k : Nat) (D : Dm) (d : Dr) (cnt : Nat) (kv : Value) (at_ : Int → Option Atr) (f : Int → Option Value), n = l.length - k ∧ k ≤ l.length ∧ I1.le I' ∧ ρ' 5 = ptr D.b ∧ ρ' 6 = ptr g ∧ ρ' 20 = .slice a1 l.length c1 ∧ ρ' 21 = vi l.length ∧ ρ' 22 = vi k ∧
   L' = F :: mbox g mb d.top kv :: mp mb f cnt :: D.hp ∧ DAbs I' D d ∧ Fit d ∧ LsAt Nd.Rp I' d.top.kids kv ∧ AtRep I' at_ f ∧ Agr at_ d ∧ d.segs ≤ 1200 * (k : Int))
  l.length ⟨0, D0, Dr.new, 0, _, fun _ => none, _, rfl, by omega, Mem.le.refl _, rfl, rfl, rfl, rfl, rfl, rfl, hD0, Fit.new, LsAt.nil _ _, fun i => .inl ⟨rfl, rfl⟩, fun i hi hi0 => rfl, by decide⟩ ?_
 rintro n ρ' I2 L' ⟨k, D, d, cnt, kv, at_, f, rfl, hk, hI2, r5, r6, r20, r21, r22, rfl, hD, hF, hkv, hat, hag, hsg⟩
 refine ju5 r22 r21 r20 r6 r5 ?_
 have hN2 := hN.mono hI2
 by_cases hkn : k < l.length
 ·obtain ⟨bq, off, cap, cs, he, ⟨e, t, u, dd, q, rfl, hc⟩, hA⟩ := (hv0.mono hI2).get k hkn
  cases he
  have hsm := hs _ (List.getElem_mem hkn)
  generalize l[k] = c at *
  have hse := small_segs hsm
  have hnn := segsOf_nonneg c.ents
  have hle : c.ents.length ≤ 100000 := by have := hsm.1; omega
  have hc0 := hc
  obtain ⟨x0, y0, x1, y1, x2, y2, x3, y3, x4, y4, rfl, rfl, rfl, rfl, rfl⟩ := hc.sl
  obtain ⟨m1, m2, m3⟩ := mdo_apply (c := c) hD.abs hF.inv hD.dom hag (by omega) hsm
  refine jS (jy rfl rfl (jM (jB (jF (jV (jA (jB (WC.block (jS (jm (jZ rfl rfl) (jm (Val.loadI rfl (by assumption) rfl) ?_)))))))))))
  refine WL.alloc rfl (fun _ => ?_)
  refine jW ?_
  refine WL.stA 10 rfl rfl rfl rfl ?_
  refine jN (jd rfl (jm (jt 10 rfl rfl rfl) ?_))
  rename_i g8
  refine WL.callP [1, 1] rfl rfl (mDo D.A d.top hD.abs kv at_ f g mb cnt c _ _ _ _ _ _ hN2 hkv hat hc0 hle) rfl ?_
  rintro _ I3 _ hI3 ⟨kv', f', cnt', rfl, rfl, hkv', hat'⟩
  rw [m1] at hkv' ⊢
  rw [m2]
  generalize (mdo d.top at_ c).2.1 = at2 at hat' m3
  refine jW ?_
  refine jf rfl (jN (jd rfl (jm (jt 8 rfl rfl rfl) (WL.callP [1, 1, 1, 1, 1, 1, 1] rfl rfl (dApply D d c _ _ _ _ _ _ (hN2.mono hI3) (hD.mono hI3) (hc0.mono hI3) hle hF.inv.nonneg (by omega)) rfl ?_))))
  rintro _ I4 _ hI4 ⟨D', bcs, rfl, ⟨e', t', u', d', q', rfl, hbk⟩, hb, rfl, hD'⟩
  obtain ⟨_, _, _, _, _, _, _, _, _, _, rfl, rfl, rfl, rfl, rfl⟩ := hbk.sl
  have hF' := hF.apply (c := c) hD.abs hD.dom hD'.abs
  have hsg' := apply_segs (d := d) hsm
  rw [← hb]
  refine jW ?_
  refine je rfl (jm (Val.extractA rfl rfl) (jm (jq rfl rfl) (WL.alloc rfl (fun _ => ?_))))
  refine jW ?_
  refine WL.stA 11 rfl rfl rfl rfl ?_
  refine jf rfl (jN (ja rfl (ja rfl (jz rfl rfl (jb rfl (jG (jd rfl (jG (jd rfl (jG ?_))))))))))
  rename_i g10
  refine WL.callR [2, 2, 2, 2, 2, 2, 2, 2, 2] rfl rfl rfl (mIs D' (d.apply c).1 _ hD' hF'.inv kv' at2 f' g mb cnt' (hkv'.mono hI4) (hat'.mono hI4) m3) rfl ?_
  rintro _ I5 hI5 rfl
  exact jG (jl rfl (jk rfl (jM (jE (jV (WX.inNormal (jA (jD (jX rfl rfl (ja rfl (jC (WX.conv (fun w h => h.sub [0, 1, 1, 1, 1, 1, 1, 1, 1, 1] rfl) (WX.thenK (WK.round (l.length - (k + 1)) (by omega) ⟨k + 1, D', (d.apply c).1, cnt', kv', at2, f', rfl, by omega, hI2.trans (hI3.trans (hI4.trans hI5)), rfl, rfl, rfl, rfl, rfl, rfl, hD'.mono hI5, hF', hkv'.mono (hI4.trans hI5), hat'.mono (hI4.trans hI5), m3, by omega⟩))))))))))))))
 ·have hkl : k = l.length := by omega
  subst hkl
  refine jS (jx rfl rfl (jM (jB (jE (WC.exit (WX.thenExit (WX.thenExit (WX.inHit (jK (jd rfl (jd rfl (ji rfl (ji rfl (jg rfl (jM (jR ?_))))))))))))))))
  have hJ := hI2
  exact jP [0, 0, 0, 0, 0, 0, 0, 0, 0] (jr3 rfl (ResIs.tmpP rfl) (ResIs.tmpP rfl) (jtB rfl)) ⟨D, d, g, mb, cnt, kv, at_, f, rfl, rfl, hD, hF, hkv, hat, hag, hsg⟩
end Go.Proofs.YtggcpoleklcmkaaGreatDoor

namespace Go.Dc
open Go.Sl Go.Ls Go.Tr
theorem Tk_ents (at_ : Int → Atr) (n : Nd) : ∀ r, Tk (ents at_ n ++ r) = some (n, r) := by
 refine Nd.rec (motive_1 := fun n => ∀ r, Tk (ents at_ n ++ r) = some (n, r)) (motive_2 := fun l => ∀ r, Tks l.length (entss at_ l ++ r) = some (l, r)) ?_ ?_ ?_ n
 ·intro i g ks h r
  rw [ents, List.cons_append, Tk_cons]
  have h1 := entss_len at_ ks
  have h2 := Nd.len_le_sizes ks
  rw [if_neg (by simp only [List.length_append]; omega)]
  simp only [Int.toNat_natCast, h r]
 ·intro r
  rw [entss]; exact Tks_zero _
 ·intro k ks h1 h2 r
  rw [entss, List.length_cons, Tks_succ, List.append_assoc, h1]
  simp only [h2 r]
theorem Tk_ents0 (at_ : Int → Atr) (n : Nd) : Tk (ents at_ n) = some (n, []) := by
 have := Tk_ents at_ n []
 rwa [List.append_nil] at this
theorem ents_gs (at_ : Int → Atr) (n : Nd) : (ents at_ n).map (fun x => (x.id, x.grp)) = n.gs := Tk_gs (Tk_ents0 at_ n)
theorem dropAll_mem : ∀ {l : List Ent} {f : Int → Option Atr} {i : Int}, i ∈ l.map Ent.id → dropAll f l i = none
 | [], _, _, h => by cases h
 | x :: l, f, i, h => by
  rw [dropAll]
  by_cases hi : i ∈ l.map Ent.id
  ·exact dropAll_mem hi
  ·rw [dropAll_ne hi]
   have : i = x.id := by
    rcases List.mem_cons.1 h with h | h
    ·exact h
    ·exact absurd h hi
   rw [downAt, if_pos this]
theorem Dr.ext_of {d e : Dr} (ht : e.top = d.top) (ha : e.at_ = d.at_) (hd : DInv d) (he : DInv e) : e = d := by
 have h1 := hd.seg
 have h2 := he.seg
 obtain ⟨t, a, s⟩ := d
 obtain ⟨t', a', s'⟩ := e
 simp only at ht ha
 subst ht; subst ha
 simp only at h1 h2
 congr 1
 rw [h1, h2]
 rfl
section
variable {A B : Ar} {d : Dr} {c : Cm}
theorem apply_err (h : (d.apply c).2.2 ≠ 0) : (d.apply c).1 = d ∧ (d.apply c).2.1 = Cm.z := by
 have key : ∀ {q : Dr × Cm × Int}, q.2.2 ≠ 0 → (q.2.2 = 0 ∨ (q.1 = d ∧ q.2.1 = Cm.z)) → q.1 = d ∧ q.2.1 = Cm.z := fun h1 h2 => h2.resolve_left h1
 refine key h ?_
 rw [Dr.apply]
 by_cases k1 : c.kind = 1
 ·rw [if_pos k1, Dr.add]
  repeat' split
  all_goals first | exact .inr ⟨rfl, rfl⟩ | exact .inl rfl
 rw [if_neg k1]
 by_cases k2 : c.kind = 2
 ·rw [if_pos k2, Dr.remove]
  simp only
  split
  all_goals first | exact .inr ⟨rfl, rfl⟩ | exact .inl rfl
 rw [if_neg k2]
 by_cases k3 : c.kind = 3
 ·rw [if_pos k3, Dr.move]
  simp only
  split
  all_goals first | exact .inr ⟨rfl, rfl⟩ | exact .inl rfl
 rw [if_neg k3]
 by_cases k4 : c.kind = 4
 ·rw [if_pos k4, Dr.wrap]
  simp only
  repeat' split
  all_goals first | exact .inr ⟨rfl, rfl⟩ | exact .inl rfl
 rw [if_neg k4]
 by_cases k5 : c.kind = 5
 ·rw [if_pos k5, Dr.unwrap]
  simp only
  split
  all_goals first | exact .inr ⟨rfl, rfl⟩ | exact .inl rfl
 rw [if_neg k5]
 by_cases k6 : 6 ≤ c.kind ∧ c.kind ≤ 12
 ·rw [if_pos k6, Dr.set]
  repeat' split
  all_goals first | exact .inr ⟨rfl, rfl⟩ | exact .inl rfl
 ·rw [if_neg k6]; exact .inr ⟨rfl, rfl⟩
theorem back_core (hA : Abs A d.top) (hF : Fit d) (hdom : ∀ i, (d.at_ i).isSome = true ↔ i ≠ 0 ∧ i ∈ d.top.order) (hB : Abs B (d.apply c).1.top) (h : (d.apply c).2.2 = 0) :
  ((d.apply c).1.apply (d.apply c).2.1).1.top = d.top ∧ ((d.apply c).1.apply (d.apply c).2.1).1.at_ = d.at_ ∧ ((d.apply c).1.apply (d.apply c).2.1).2.2 = 0 := by
 have key : ∀ {q : Dr × Cm × Int}, d.apply c = q → (q.1.apply q.2.1).1.top = d.top ∧ (q.1.apply q.2.1).1.at_ = d.at_ ∧ (q.1.apply q.2.1).2.2 = 0 → ((d.apply c).1.apply (d.apply c).2.1).1.top = d.top ∧ ((d.apply c).1.apply (d.apply c).2.1).1.at_ = d.at_ ∧ ((d.apply c).1.apply (d.apply c).2.1).2.2 = 0 := by
  rintro q rfl h
  exact h
 have h1n : ∀ {P : Prop} [Decidable P] {q : Dr × Cm × Int} {e : Int} , (if P then (d, Cm.z, e) else q).2.2 = 0 → e ≠ 0 → ¬ P ∧ (if P then (d, Cm.z, e) else q) = q := fun {P _ q e} h he => by
  split at h
  ·exact absurd h he
  ·rename_i hp; exact ⟨hp, if_neg hp⟩
 by_cases k1 : c.kind = 1
 ·have ha : d.apply c = d.add c := by rw [Dr.apply, if_pos k1]
  rw [ha] at h hB
  rw [Dr.add] at h
  obtain ⟨hW, e1⟩ := h1n h (by decide)
  rw [e1] at h
  have hf : firstWrong c.ents = 0 := by
   by_cases hf : firstWrong c.ents = 0
   ·exact hf
   ·rw [if_pos hf] at h; exact absurd h hf
  rw [if_neg (fun e => e hf)] at h
  have hm : ¬ mostSegs - d.segs < segsOf c.ents := fun hm => by
   rw [if_pos hm] at h
   simp only at h
   split at h
   ·rename_i h2; exact h2 h
   ·exact absurd h (by decide)
  rw [if_neg hm] at h
  have he : (Nd.add d.top c.parent c.index (nodeOf c.ents)).2 = 0 := by
   by_cases he : (Nd.add d.top c.parent c.index (nodeOf c.ents)).2 = 0
   ·exact he
   ·rw [if_pos he] at h; exact absurd h he
  have hq : d.apply c = (⟨(Nd.add d.top c.parent c.index (nodeOf c.ents)).1, putAll d.at_ c.ents, d.segs + segsOf c.ents⟩, { Cm.z with kind := 2, id := (nodeOf c.ents).id }, 0) := by
   rw [ha, Dr.add, if_neg hW, if_neg (fun e => e hf), if_neg hm, if_neg (fun e => e he)]
  rw [← ha, hq] at hB
  refine key hq ?_
  clear key hq h h1n e1 ha
  obtain ⟨n, hn⟩ := (Whole_iff _).1 (Decidable.of_not_not hW)
  have hids := Tk_order hn
  simp only [List.map_nil, List.append_nil] at hids
  rw [nodeOf_eq hn] at hB he ⊢
  have hu := hA.undoAdd hB (Prod.ext rfl he : Nd.add d.top c.parent c.index n = (_, 0))
  have hco := Nd.count_add hA.od he
  simp only at hB hu ⊢
  rw [Dr.apply, if_neg (by show ¬ (2 : Int) = 1; decide), if_pos rfl, Dr.remove]
  simp only [hu]
  rw [if_neg (fun e => e rfl)]
  refine ⟨rfl, ?_, rfl⟩
  simp only
  funext i
  have hie := ents_ids (Dr.get ⟨(Nd.add d.top c.parent c.index n).1, putAll d.at_ c.ents, d.segs + segsOf c.ents⟩) n
  by_cases hi : i ∈ n.order
  ·rw [dropAll_mem (by rw [hie]; exact hi)]
   cases hat : d.at_ i with
   | none => rfl
   | some a =>
    have h1 := mem_count.1 ((hdom i).1 (by rw [hat]; rfl)).2
    have h2 := mem_count.1 hi
    have h3 := hco i
    have h4 := nodup_count hB.od i
    omega
  ·rw [dropAll_ne (by rw [hie]; exact hi), putAll_ne (by rw [hids]; exact hi)]
 by_cases k2 : c.kind = 2
 ·have ha : d.apply c = d.remove c := by rw [Dr.apply, if_neg k1, if_pos k2]
  have he : (Nd.remove d.top c.id).2.2.2.2 = 0 := by
   by_cases he : (Nd.remove d.top c.id).2.2.2.2 = 0
   ·exact he
   ·rw [ha, Dr.remove] at h
    simp only at h
    rw [if_pos he] at h; exact absurd h he
  have hq : d.apply c = (⟨(Nd.remove d.top c.id).1, dropAll d.at_ (ents d.get (Nd.remove d.top c.id).2.1), d.segs - segsOf (ents d.get (Nd.remove d.top c.id).2.1)⟩, { Cm.z with kind := 1, parent := (Nd.remove d.top c.id).2.2.1, index := (Nd.remove d.top c.id).2.2.2.1, ents := ents d.get (Nd.remove d.top c.id).2.1 }, 0) := by
   rw [ha, Dr.remove]
   simp only
   rw [if_neg (fun e => e he)]
  rw [hq] at hB
  refine key hq ?_
  clear key hq h h1n ha
  have hu := hA.undoRemove hF.good (t1 := (Nd.remove d.top c.id).1) (n := (Nd.remove d.top c.id).2.1) (q := (Nd.remove d.top c.id).2.2.1) (k := (Nd.remove d.top c.id).2.2.2.1) (i := c.id) (by rw [← he])
  obtain ⟨o1, o2, o3, o4, o5⟩ := hA.rem_nodup he
  have hcr := hA.count_rem he
  have hgr := hA.gcount_rem he
  have h0n : (0 : Int) ∉ (Nd.remove d.top c.id).2.1.order := o3 0 (mem0 hB)
  generalize (Nd.remove d.top c.id).1 = t1 at *
  generalize (Nd.remove d.top c.id).2.1 = n at *
  generalize (Nd.remove d.top c.id).2.2.1 = q at *
  generalize (Nd.remove d.top c.id).2.2.2.1 = k at *
  have htk := Tk_ents0 d.get n
  have hids := ents_ids d.get n
  have hgs := ents_gs d.get n
  have hat : ∀ x ∈ ents d.get n, x.atr = d.get x.id := fun x hx => ents_atr hx
  have hin : ∀ i ∈ n.order, i ≠ 0 ∧ i ∈ d.top.order := fun i hi => ⟨fun e => h0n (by rw [← e]; exact hi), by
   rw [mem_count]
   have h1 := hcr i
   have h2 := mem_count.1 hi
   omega⟩
  have hwr : firstWrong (ents d.get n) = 0 := firstWrong_none _ fun y hy => by
   have h1 : (y.id, y.grp) ∈ n.gs := by rw [← hgs]; exact List.mem_map_of_mem (f := fun x : Ent => (x.id, x.grp)) hy
   have h2 : (y.id, y.grp) ∈ d.top.gs := by
    have h3 := hgr (y.id, y.grp)
    have h4 := List.count_pos_iff.2 h1
    exact List.count_pos_iff.1 (by omega)
   have h5 := hF.inv.right _ h2 (hin _ (gs_id h1)).1
   rw [hat y hy]
   exact h5
  simp only at hu ⊢
  rw [Dr.apply, if_pos rfl, Dr.add]
  simp only
  have hmost := hF.inv.most
  rw [if_neg (fun e => e ((Whole_iff _).2 ⟨n, htk⟩)), if_neg (fun e => e hwr), if_neg (by omega), nodeOf_eq htk, hu, if_neg (fun e => e rfl)]
  refine ⟨rfl, ?_, rfl⟩
  simp only
  funext i
  by_cases hi : i ∈ n.order
  ·have hi2 : i ∈ (ents d.get n).map Ent.id := by rw [hids]; exact hi
   obtain ⟨x, hx, rfl⟩ := List.mem_map.1 hi2
   rw [putAll_at (by rw [hids]; exact o2) hx, hat x hx]
   obtain ⟨a, ha⟩ := Option.isSome_iff_exists.1 ((hdom x.id).2 (hin _ hi))
   rw [Dr.get, ha]; rfl
  ·rw [putAll_ne (by rw [hids]; exact hi), dropAll_ne (by rw [hids]; exact hi)]
 by_cases k3 : c.kind = 3
 ·have ha : d.apply c = d.move c := by rw [Dr.apply, if_neg k1, if_neg k2, if_pos k3]
  have he : (Nd.move d.top c.id c.parent c.index).2 = 0 := by
   by_cases he : (Nd.move d.top c.id c.parent c.index).2 = 0
   ·exact he
   ·rw [ha, Dr.move] at h
    simp only at h
    rw [if_pos he] at h; exact absurd h he
  obtain ⟨_, _, _, hw⟩ := hA.rem_small (Nd.move_rem he)
  have hq : d.apply c = ({ d with top := (Nd.move d.top c.id c.parent c.index).1 }, { Cm.z with kind := 3, id := c.id, parent := (Nd.remove d.top c.id).2.2.1, index := (Nd.remove d.top c.id).2.2.2.1 }, 0) := by
   rw [ha, Dr.move]
   simp only [hw]
   rw [if_neg (fun e => e he)]
   rfl
  rw [hq] at hB
  refine key hq ?_
  clear key hq h h1n ha
  have hu := hA.undoMove hF.good hB (Prod.ext rfl he : Nd.move d.top c.id c.parent c.index = (_, 0)) hw
  simp only at hu ⊢
  rw [Dr.apply, if_neg (by show ¬ (3 : Int) = 1; decide), if_neg (by show ¬ (3 : Int) = 2; decide), if_pos rfl, Dr.move]
  simp only [hu]
  rw [if_neg (fun e => e rfl)]
  exact ⟨rfl, rfl, rfl⟩
 by_cases k4 : c.kind = 4
 ·have ha : d.apply c = d.wrap c := by rw [Dr.apply, if_neg k1, if_neg k2, if_neg k3, if_pos k4]
  have hc : c.atr.check true = 0 := by
   by_cases hc : c.atr.check true = 0
   ·exact hc
   ·rw [ha, Dr.wrap, if_pos hc] at h; exact absurd h hc
  have he : (Nd.wrap d.top c.id c.parent c.index c.count).2 = 0 := by
   by_cases he : (Nd.wrap d.top c.id c.parent c.index c.count).2 = 0
   ·exact he
   ·rw [ha, Dr.wrap, if_neg (fun e => e hc)] at h
    simp only at h
    rw [if_pos he] at h; exact absurd h he
  have hq : d.apply c = (⟨(Nd.wrap d.top c.id c.parent c.index c.count).1, upAt d.at_ c.id c.atr, d.segs⟩, { Cm.z with kind := 5, id := c.id }, 0) := by
   rw [ha, Dr.wrap, if_neg (fun e => e hc)]
   simp only
   rw [if_neg (fun e => e he)]
  rw [hq] at hB
  refine key hq ?_
  clear key hq h h1n ha
  have hu := hA.undoWrap hB (Prod.ext rfl he : Nd.wrap d.top c.id c.parent c.index c.count = (_, 0))
  have hcn := Nd.count_wrap hA.od he c.id
  have hod := nodup_count hB.od c.id
  simp only at hu hod ⊢
  rw [Dr.apply, if_neg (by show ¬ (5 : Int) = 1; decide), if_neg (by show ¬ (5 : Int) = 2; decide), if_neg (by show ¬ (5 : Int) = 3; decide), if_neg (by show ¬ (5 : Int) = 4; decide), if_pos rfl, Dr.unwrap]
  simp only [hu]
  rw [if_neg (fun e => e rfl)]
  refine ⟨rfl, ?_, rfl⟩
  simp only
  funext i
  rw [downAt, upAt]
  by_cases hi : i = c.id
  ·rw [if_pos hi]
   cases hat : d.at_ i with
   | none => rfl
   | some a =>
    have h1 := mem_count.1 ((hdom i).1 (by rw [hat]; rfl)).2
    rw [if_pos rfl] at hcn
    rw [hi] at h1
    omega
  ·rw [if_neg hi, if_neg hi]
 by_cases k5 : c.kind = 5
 ·have ha : d.apply c = d.unwrap c := by rw [Dr.apply, if_neg k1, if_neg k2, if_neg k3, if_neg k4, if_pos k5]
  have he : (Nd.unwrap d.top c.id).2.2.2.2 = 0 := by
   by_cases he : (Nd.unwrap d.top c.id).2.2.2.2 = 0
   ·exact he
   ·rw [ha, Dr.unwrap] at h
    simp only at h
    rw [if_pos he] at h; exact absurd h he
  have hq : d.apply c = (⟨(Nd.unwrap d.top c.id).1, downAt d.at_ c.id, d.segs⟩, { Cm.z with kind := 4, id := c.id, parent := (Nd.unwrap d.top c.id).2.1, index := (Nd.unwrap d.top c.id).2.2.1, count := (Nd.unwrap d.top c.id).2.2.2.1, atr := d.get c.id }, 0) := by
   rw [ha, Dr.unwrap]
   simp only
   rw [if_neg (fun e => e he)]
  rw [hq] at hB
  refine key hq ?_
  clear key hq h h1n ha
  have hu := hA.undoUnwrap hF.good (t1 := (Nd.unwrap d.top c.id).1) (q := (Nd.unwrap d.top c.id).2.1) (k := (Nd.unwrap d.top c.id).2.2.1) (c := (Nd.unwrap d.top c.id).2.2.2.1) (i := c.id) (by rw [← he])
  have hcn := hA.count_unwrap he c.id
  have hgn := hA.gcount_unwrap he (c.id, true)
  rw [if_pos rfl] at hcn hgn
  have hin : c.id ∈ d.top.order := mem_count.2 (by omega)
  have hgin : (c.id, true) ∈ d.top.gs := List.count_pos_iff.1 (by omega)
  obtain ⟨_, _, _, _, hid0⟩ := hA.rem_nodup (Nd.unwrap_rem he)
  have hck : (d.get c.id).check true = 0 := hF.inv.right _ hgin hid0
  simp only at hu ⊢
  rw [Dr.apply, if_neg (by show ¬ (4 : Int) = 1; decide), if_neg (by show ¬ (4 : Int) = 2; decide), if_neg (by show ¬ (4 : Int) = 3; decide), if_pos rfl, Dr.wrap]
  simp only [hu]
  rw [if_neg (fun e => e hck), if_neg (fun e => e rfl)]
  refine ⟨rfl, ?_, rfl⟩
  simp only
  funext i
  rw [upAt, downAt]
  by_cases hi : i = c.id
  ·rw [if_pos hi]
   obtain ⟨a, ha⟩ := Option.isSome_iff_exists.1 ((hdom c.id).2 ⟨hid0, hin⟩)
   rw [hi, Dr.get, ha]; rfl
  ·rw [if_neg hi, if_neg hi]
 by_cases k6 : 6 ≤ c.kind ∧ c.kind ≤ 12
 case neg =>
  rw [Dr.apply, if_neg k1, if_neg k2, if_neg k3, if_neg k4, if_neg k5, if_neg k6] at h
  exact absurd h (by show ¬ (33 : Int) = 0; decide)
 have ha : d.apply c = d.set c := by rw [Dr.apply, if_neg k1, if_neg k2, if_neg k3, if_neg k4, if_neg k5, if_pos k6]
 rw [ha, Dr.set] at h
 obtain ⟨hid0, e1⟩ := h1n h (by decide)
 rw [e1] at h
 cases hat : d.at_ c.id with
 | none => rw [hat] at h; exact absurd h (by show ¬ (31 : Int) = 0; decide)
 | some a =>
  rw [hat] at h
  simp only at h
  obtain ⟨hgr, e2⟩ := h1n h (by decide)
  rw [e2] at h
  have hc : (change a c).2.2 = 0 := by
   by_cases hc : (change a c).2.2 = 0
   ·exact hc
   ·rw [if_pos hc] at h; exact absurd h hc
  rw [if_neg (fun e => e hc)] at h
  obtain ⟨hm, _⟩ := h1n h (by decide)
  have hq : d.apply c = (⟨d.top, upAt d.at_ c.id (change a c).1, d.segs + (change a c).1.path.length - a.path.length⟩, { (change a c).2.1 with id := c.id }, 0) := by
   rw [ha, Dr.set, if_neg hid0, hat]
   simp only
   rw [if_neg hgr, if_neg (fun e => e hc), if_neg hm]
  refine key hq ?_
  clear key hq h h1n ha e1 e2
  have hin := ((hdom c.id).1 (by rw [hat]; rfl)).2
  have hgin : ∃ g, (c.id, g) ∈ d.top.gs := by
   rw [← Nd.order_gs] at hin
   obtain ⟨p, hp, e⟩ := List.mem_map.1 hin
   exact ⟨p.2, by rw [← e]; exact hp⟩
  obtain ⟨g, hgin⟩ := hgin
  have hck : (d.get c.id).check g = 0 := hF.inv.right _ hgin hid0
  rw [Dr.get, hat] at hck
  obtain ⟨b1, b2, b3, b4, b5⟩ := change_back (c := c) hck k6.1 k6.2 hc c.id
  have hmost := hF.inv.most
  simp only [Option.getD_some] at b1 b2 b3 b4 b5
  generalize hbk : ({ (change a c).2.1 with id := c.id } : Cm) = bk at *
  have hbi : bk.id = c.id := by rw [← hbk]
  have hbkk : bk.kind = (change a c).2.1.kind := by rw [← hbk]
  rw [← hbkk] at b3 b4 b5
  simp only
  rw [Dr.apply, if_neg (by omega), if_neg (by omega), if_neg (by omega), if_neg (by omega), if_neg (by omega), if_pos ⟨b3, b4⟩, Dr.set, hbi, if_neg hid0]
  simp only [upAt, if_pos]
  rw [if_neg (fun hh => hgr ⟨b5 hh.1, hh.2⟩), if_neg (fun e => e b2), b1, if_neg (by omega)]
  refine ⟨rfl, ?_, rfl⟩
  simp only
  funext i
  rw [upAt]
  by_cases hi : i = c.id
  ·rw [if_pos hi, hi, hat]
  ·rw [if_neg hi, upAt, if_neg hi]
theorem apply_back (hA : Abs A d.top) (hF : Fit d) (hdom : ∀ i, (d.at_ i).isSome = true ↔ i ≠ 0 ∧ i ∈ d.top.order) (hB : Abs B (d.apply c).1.top) (hdom' : ∀ i, ((d.apply c).1.at_ i).isSome = true ↔ i ≠ 0 ∧ i ∈ (d.apply c).1.top.order) (h : (d.apply c).2.2 = 0) :
  ((d.apply c).1.apply (d.apply c).2.1).1 = d ∧ ((d.apply c).1.apply (d.apply c).2.1).2.2 = 0 := by
 obtain ⟨h1, h2, h3⟩ := back_core hA hF hdom hB h
 have hF' := hF.apply hA hdom hB
 have hi := inv_apply (B := A) hF'.inv hB hdom' (c := (d.apply c).2.1) (by rw [h1]; exact hA)
 exact ⟨Dr.ext_of h1 h2 hF.inv hi, h3⟩
end
end Go.Dc

namespace Go.Sl
open Go.Ls
section
variable {Γ : Cx} {ρ : Nat → Value} {I : Mem} {L : List HP} {Q : Post}
end
end Go.Sl
namespace Go.Dc
open Go.Sl Go.Ls Go.Tr
section
variable {A B : Ar} {d : Dr} {c : Cm}
theorem back_fits (hA : Abs A d.top) (hF : Fit d) (hF' : Fit (d.apply c).1) : (d.apply c).2.1.ents.length ≤ 100000 ∧ (d.apply c).1.segs + segsOf (d.apply c).2.1.ents ≤ 1048576 := by
 have hm : d.segs ≤ 1048576 := hF.inv.most
 have hm' : (d.apply c).1.segs ≤ 1048576 := hF'.inv.most
 have nil : ∀ {q : Dr × Cm × Int}, q.1.segs ≤ 1048576 → q.2.1.ents = [] → q.2.1.ents.length ≤ 100000 ∧ q.1.segs + segsOf q.2.1.ents ≤ 1048576 := by
  intro q h1 h2
  rw [h2]
  refine ⟨Nat.zero_le _, ?_⟩
  have : segsOf [] = 0 := rfl
  omega
 by_cases k2 : c.kind = 2
 ·have ha : d.apply c = d.remove c := by rw [Dr.apply, if_neg (by omega), if_pos k2]
  rw [ha, Dr.remove] at hm' ⊢
  simp only at hm' ⊢
  split
  ·refine ⟨Nat.zero_le _, ?_⟩
   show d.segs + 0 ≤ _
   omega
  ·have h1 := ents_len d.get (Nd.remove d.top c.id).2.1
   have h2 := (hA.remSize c.id).2
   refine ⟨by simp only; omega, ?_⟩
   simp only
   omega
 ·refine nil hm' ?_
  rw [Dr.apply]
  by_cases k1 : c.kind = 1
  ·rw [if_pos k1, Dr.add]
   repeat' split
   all_goals rfl
  rw [if_neg k1, if_neg k2]
  by_cases k3 : c.kind = 3
  ·rw [if_pos k3, Dr.move]
   simp only
   split <;> rfl
  rw [if_neg k3]
  by_cases k4 : c.kind = 4
  ·rw [if_pos k4, Dr.wrap]
   split
   ·rfl
   ·simp only
    split <;> rfl
  rw [if_neg k4]
  by_cases k5 : c.kind = 5
  ·rw [if_pos k5, Dr.unwrap]
   simp only
   split <;> rfl
  rw [if_neg k5]
  by_cases k6 : 6 ≤ c.kind ∧ c.kind ≤ 12
  ·rw [if_pos k6]
   have hch : ∀ a, (change a c).2.1.ents = [] := fun a => by
    rw [change]
    repeat' split
    all_goals rfl
   rw [Dr.set]
   repeat' split
   all_goals first | rfl | exact hch _
  ·rw [if_neg k6]
end
end Go.Dc
namespace Go.Proofs.YtggcpoleklcmkaaGreatDoor
open Go.Sl Go.Ls Go.Tr Go.Dc
attribute [local irreducible] WC WL WX WK WA WAK Val Ctr RunRes ResIs Rd At sl box pt Exit.then Exit.inBlock bodyPost Code.wp wpList
theorem dBack (l : List Cm) (v : Value) (c : Cm) (e t u dd q : Value) (I : Mem) (hN : NeedAt I) (hv : LsAt Cm.rep I l v) (hc : c.at_ I e t u dd q) :
  Ctr Tryz.prog 8 [v, .agg (c.cs e t u dd q).toArray] I [] (KeepR [] fun v _ => v = .bool true) := by
 have hv0 := hv
 have hc0 := hc
 obtain ⟨a1, c1, rfl⟩ := hv.sl
 obtain ⟨x0, y0, x1, y1, x2, y2, x3, y3, x4, y4, rfl, rfl, rfl, rfl, rfl⟩ := hc.sl
 refine Ctr.intro Tryz.func8 rfl rfl rfl fun E F => ?_
 refine jS (WL.boxA rfl rfl (fun _ => ?_))
 refine jW ?_
 refine jg rfl (jM (jB (jS (jc rfl ?_))))
 rename_i g3
 refine WL.callE rfl rfl (small_ctr l 25 _ _ hv0) rfl (fun hs => ?_) (fun hs => ?_)
 case refine_2 =>
  refine jl rfl (jb rfl (jH (jH (jH (jH (jk rfl (jM (jF (jS (WL.callP [] rfl rfl (dAwake _ hN) rfl ?_))))))))))
  rintro _ I2 _ hI2 ⟨rfl, rfl⟩
  refine jW ?_
  refine jg rfl (jM (jR (jU ?_)))
  exact jP [] (jr1 rfl (jtB rfl)) ⟨rfl, rfl⟩
 refine jl rfl (jb rfl (jG (jm (jt 1 rfl rfl rfl) (jG (WL.buildSlice (by with_unfolding_all exact rfl) rfl (by with_unfolding_all exact rfl) rfl (fun _ => ?_))))))
 refine jW ?_
 refine jG ?_
 rename_i g20
 refine WL.boxSl (e := 59) (sz := 51) (n := 1) 2 rfl rfl (by decide) ?_
 refine WL.freezeL (R := Cm.rep) (l := [c]) 2 rfl ⟨[_], rfl, ⟨_, _, _, _, _, rfl, hc0⟩, trivial⟩ fun I1 hI1 hvc => ?_
 refine WL.callE rfl rfl (small_ctr [c] 1 _ _ hvc) rfl (fun hs2 => ?_) (fun hs2 => ?_)
 case refine_2 =>
  refine jG (jl rfl (jk rfl (jM (jF (jS (WL.callP [] rfl rfl (dAwake _ (hN.mono hI1)) rfl ?_))))))
  rintro _ I2 _ hI2 ⟨rfl, rfl⟩
  refine jW ?_
  have hJ := hI1.trans hI2
  refine jg rfl (jM (jR (jU ?_)))
  exact jP [] (jr1 rfl (jtB rfl)) ⟨rfl, rfl⟩
 have hcs : c.small := hs2.1 c (.head _)
 have hse := small_segs hcs
 have hle : c.ents.length ≤ 100000 := by have := hcs.1; omega
 refine jG (jl rfl (jk rfl (jM (jE (jV (jK (jc rfl (WL.callP [] rfl rfl (dPlay l _ _ (hN.mono hI1) (hv0.mono hI1) hs.1 (by have := hs.2; omega)) rfl ?_))))))))
 rintro _ I2 _ hI2 ⟨D, d, g, mb, cnt, kv, at_, f, rfl, rfl, hD, hF, hkv, hat, hag, hsg⟩
 have hll : (l.length : Int) ≤ 25 := hs.2
 have hJ2 := hI1.trans hI2
 refine jW ?_
 refine je rfl (jm (Val.extractP rfl rfl) (jm (Val.extractP rfl rfl) (jm (Val.extractB rfl rfl) (ji rfl (ji rfl (jg rfl (jM (jB (jS (jb rfl (jl rfl (jM (jE (jV (jK (jd rfl (jm (jt 1 rfl rfl rfl) (WL.callP [4, 4, 4, 4, 4, 4, 4] rfl rfl (dApply D d c _ _ _ _ _ _ (hN.mono hJ2) hD (hc0.mono hJ2) hle hF.inv.nonneg (by omega)) rfl ?_))))))))))))))))))
 rintro _ I3 _ hI3 ⟨D', bcs, rfl, ⟨e', t', u', d', q', rfl, hbk⟩, hb, rfl, hD'⟩
 have hJ3 := hJ2.trans hI3
 have hF' := hF.apply (c := c) hD.abs hD.dom hD'.abs
 have hbf := back_fits (c := c) hD.abs hF hF'
 have hbk0 := hbk
 obtain ⟨p0, o0, p1, o1, p2, o2, p3, o3, p4, o4, rfl, rfl, rfl, rfl, rfl⟩ := hbk.sl
 rw [← hb]
 refine jW ?_
 by_cases he : (d.apply c).2.2 = 0
 case neg =>
  obtain ⟨q1, q2⟩ := apply_err he
  rw [q1] at hD'
  have hbk1 : (d.apply c).2.1.kind = 0 := by rw [q2]
  have hbk2 : (d.apply c).2.1.ents.length = 0 := by rw [q2]; rfl
  refine je rfl (jm (Val.extractA rfl rfl) (jm (jq rfl rfl) (WL.alloc rfl (fun _ => ?_))))
  refine jW ?_
  refine WL.stA 11 rfl rfl rfl rfl ?_
  refine jf rfl (jM (jB (jS (ja rfl (jJ rfl rfl (jM (jF (jS (jm (jn rfl) (jm (jp 11 rfl rfl rfl) (jw rfl rfl (jb rfl (jG (jm (jn rfl) (jG (jm (jp 11 rfl rfl rfl) (jG (jm (jo rfl) (jG (jw rfl rfl (jk rfl (jb rfl (jG (jd rfl (jG (jd rfl (jG (WL.callR [2, 2, 2, 2, 2, 2, 2, 2, 2] rfl rfl rfl (mIs D' d _ hD' hF.inv kv at_ f g mb cnt (hkv.mono hI3) (hat.mono hI3) hag) rfl ?_))))))))))))))))))))))))))))
  rintro _ I4 hI4 rfl
  refine jk rfl (jb rfl (jG (WL.callP [] rfl rfl (dAwake _ (hN.mono (hJ3.trans hI4))) rfl ?_)))
  rintro _ I5 _ hI5 ⟨rfl, rfl⟩
  refine jW ?_
  have hJ := (hJ3.trans hI4).trans hI5
  refine jk rfl (jg rfl (jM (jR (jU ?_))))
  exact jP [] (jr1 rfl (jtB rfl)) ⟨rfl, rfl⟩
 obtain ⟨b1, b2⟩ := apply_back hD.abs hF hD.dom hD'.abs hD'.dom he
 refine je rfl (jm (Val.extractA rfl rfl) (jm (jq rfl rfl) (WL.alloc rfl (fun _ => ?_))))
 refine jW ?_
 refine WL.stA 11 rfl rfl rfl rfl ?_
 refine jf rfl (jM (jB (jS (ja rfl (jz rfl rfl (jM (jE (jV (jK (jd rfl (WL.callR [4, 4, 4, 4, 4, 4, 4] rfl rfl rfl (dEntries D' (d.apply c).1 _ hD') rfl ?_)))))))))))
 rintro v1 I4 hI4 hv1
 refine WL.val Val.assign rfl ?_
 refine jN (jd rfl (jm (jt 11 rfl rfl rfl) (WL.callP [4, 4, 4, 4, 4, 4, 4] rfl rfl (dApply D' (d.apply c).1 (d.apply c).2.1 _ _ _ _ _ _ (hN.mono (hJ3.trans hI4)) (hD'.mono hI4) (hbk0.mono hI4) hbf.1 hF'.inv.nonneg hbf.2) rfl ?_)))
 rintro _ I5 _ hI5 ⟨D2, bcs2, rfl, ⟨e2, t2, u2, d2, q2, rfl, hbk2⟩, hb2, rfl, hD2⟩
 have hJ5 := (hJ3.trans hI4).trans hI5
 have hF2 := hF'.apply (c := (d.apply c).2.1) hD'.abs hD'.dom hD2.abs
 have hbf2 := back_fits (c := (d.apply c).2.1) hD'.abs hF' hF2
 obtain ⟨r1, r2⟩ := apply_back hD'.abs hF' hD'.dom hD2.abs hD2.dom b2
 rw [b1] at hD2 hF2 hbf2 r1 r2
 rw [b2]
 have hbk20 := hbk2
 obtain ⟨m0, n0, m1, n1, m2, n2, m3, n3, m4, n4, rfl, rfl, rfl, rfl, rfl⟩ := hbk2.sl
 generalize ((d.apply c).1.apply (d.apply c).2.1).2.1 = ag at *
 rw [← hb2]
 refine jW ?_
 refine je rfl (jm (Val.extractA rfl rfl) (jm (jq rfl rfl) (WL.alloc rfl (fun _ => ?_))))
 refine jW ?_
 refine WL.stA 12 rfl rfl rfl rfl ?_
 refine jf rfl (jM (jB (jS (ja rfl (jz rfl rfl (jb rfl (jG (jd rfl (jG (jd rfl (jG (WL.callR [2, 2, 3, 3, 3, 3, 3, 3, 3] rfl rfl rfl (mIs D2 d _ hD2 hF.inv kv at_ f g mb cnt (hkv.mono (hI3.trans (hI4.trans hI5))) (hat.mono (hI3.trans (hI4.trans hI5))) hag) rfl ?_))))))))))))
 rintro _ I6 hI6 rfl
 refine jG (jl rfl (jk rfl (jM (jE (jV (jK (jd rfl (jm (jt 12 rfl rfl rfl) (WL.callP [5, 5, 5, 5, 5, 5, 5] rfl rfl (dApply D2 d ag _ _ _ _ _ _ (hN.mono (hJ5.trans hI6)) (hD2.mono hI6) (hbk20.mono hI6) hbf2.1 hF.inv.nonneg hbf2.2) rfl ?_)))))))))
 rintro _ I7 _ hI7 ⟨D3, bcs3, rfl, ⟨e3, t3, u3, d3, q3, rfl, hbk3⟩, hb3, rfl, hD3⟩
 rw [r1] at hD3
 rw [r2]
 obtain ⟨_, _, _, _, _, _, _, _, _, _, rfl, rfl, rfl, rfl, rfl⟩ := hbk3.sl
 rw [← hb3]
 refine jW ?_
 refine je rfl (jm (Val.extractA rfl rfl) (jm (jq rfl rfl) (WL.alloc rfl (fun _ => ?_))))
 refine jW ?_
 refine WL.stA 13 rfl rfl rfl rfl ?_
 refine jf rfl (jN (ja rfl (jw rfl rfl (jb rfl (jG (jd rfl (jG (WL.callR [6, 6, 6, 6, 6, 6, 6] rfl rfl rfl (dEntries D3 (d.apply c).1 _ hD3) rfl ?_))))))))
 rintro v2 I8 hI8 hv2
 have hK := hI5.trans (hI6.trans (hI7.trans hI8))
 refine jG (WL.val Val.move rfl ?_)
 refine jG ?_
 refine WL.callE rfl rfl (eqSame _ _ _ _ _ hv2 (hv1.mono hK)) rfl (fun h => ?_) (fun h => absurd rfl h)
 refine jk rfl (jb rfl (jG ?_))
 have hJ8 := hJ5.trans (hI6.trans (hI7.trans hI8))
 refine WL.callP [] rfl rfl (dAwake _ (hN.mono hJ8)) rfl ?_
 rintro _ I9 _ hI9 ⟨rfl, rfl⟩
 refine jW ?_
 have hJ := hJ8.trans hI9
 refine jk rfl (jg rfl (jM (jR ?_)))
 exact jP [] (jr1 rfl (jtB rfl)) ⟨rfl, rfl⟩
end Go.Proofs.YtggcpoleklcmkaaGreatDoor
