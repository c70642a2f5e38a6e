/-
 Drawings, the walks: remove. -- KS14
-/
import Derived.Test.YtggcpoleklcmkaaGreatDoorX2
import Derived.Test.YtggcpoleklcmkaaGreatDoorX11
import Derived.Test.YtggcpoleklcmkaaGreatDoorX3
import Derived.Test.YtggcpoleklcmkaaGreatDoorX8
import Derived.Test.YtggcpoleklcmkaaGreatDoorX4
set_option linter.unusedVariables false
set_option linter.unusedSimpArgs false
set_option maxRecDepth 100000
set_option maxHeartbeats 8000000
namespace Go.Proofs.YtggcpoleklcmkaaGreatDoor
open Go.Sl Go.Ls Go.Tr Go.Dc
attribute [local irreducible] WC WL WX WK WA WAK Val Ctr RunRes ResIs Rd At sl box pt Exit.then Exit.inBlock bodyPost Code.wp wpList
theorem dRemove (D : Dm) (d : Dr) (c : Cm) (e t u dd q : Value) (I : Mem) (hD : DAbs I D d) (hc : c.at_ I e t u dd q) (hs0 : 0 ≤ d.segs) (hs1 : d.segs ≤ 1048576) :
  Ctr Tryz.prog 67 [ptr D.b, .agg (c.cs e t u dd q).toArray] I D.hp (ApplyN (d.remove c) D I) := by
 obtain ⟨x0, y0, x1, y1, x2, y2, x3, y3, x4, y4, rfl, rfl, rfl, rfl, rfl⟩ := hc.sl
 have hmv : d.remove c = if (Nd.remove d.top c.id).2.2.2.2 ≠ 0 then (d, Cm.z, (Nd.remove d.top c.id).2.2.2.2) else (⟨(Nd.remove d.top c.id).1, dropAll d.at_ (ents (fun i => (d.at_ i).getD Atr.z) (Nd.remove d.top c.id).2.1), d.segs - segsOf (ents (fun i => (d.at_ i).getD Atr.z) (Nd.remove d.top c.id).2.1)⟩, { Cm.z with kind := 1, parent := (Nd.remove d.top c.id).2.2.1, index := (Nd.remove d.top c.id).2.2.2.1, ents := ents (fun i => (d.at_ i).getD Atr.z) (Nd.remove d.top c.id).2.1 }, 0) := by
  rw [Dr.remove]; rfl
 rw [hmv]
 clear hmv
 refine Ctr.intro Tryz.func67 rfl rfl rfl fun E F => ?_
 refine jS (WL.boxA rfl rfl (fun _ => ?_))
 refine jW ?_
 refine WL.alloc rfl (fun _ => ?_)
 refine jW ?_
 refine jf rfl (jM (jB ?_))
 rename_i g3 g4
 refine WC.cutP (fun ρ' I' L' => ∃ (kv : Value) (B : Ar) (g6 : Nat), I.le I' ∧ B.b = D.A.b ∧ Abs B (Nd.remove d.top c.id).1 ∧ LsAt Nd.Rp I' (Nd.remove d.top c.id).2.1.kids kv ∧ I64 (Nd.remove d.top c.id).2.1.id ∧
  ρ' 0 = ptr D.b ∧ ρ' 3 = ptr g3 ∧ ρ' 4 = ptr g4 ∧ ρ' 6 = ptr g6 ∧ ρ' 7 = vi (Nd.remove d.top c.id).2.2.1 ∧ ρ' 8 = vi (Nd.remove d.top c.id).2.2.2.1 ∧ ρ' 9 = vi (Nd.remove d.top c.id).2.2.2.2 ∧
  L' = [sts B.hp, F, docBox D.b D.A.b D.mb D.segs, mp D.mb D.f D.cnt, box g3 59 (c.cs (.slice x0 c.ents.length y0) (.slice x1 c.atr.sty.fill.stops.length y1) (.slice x2 c.atr.sty.pen.stops.length y2) (.slice x3 c.atr.sty.dash.length y3) (.slice x4 c.atr.path.length y4)), box g4 59 (Cm.cs Cm.z (.slice none 0 0) (.slice none 0 0) (.slice none 0 0) (.slice none 0 0) (.slice none 0 0)), box g6 72 [vi (Nd.remove d.top c.id).2.1.id, .bool (Nd.remove d.top c.id).2.1.grp, kv]]) ?_ ?_
 ·skip
  refine j8 999 [1, 7] rfl (jT 0 rfl (Val.moveP rfl) (jT 1 rfl (jr rfl) (jT 2 rfl (jn rfl) (jT 3 rfl (jp 0 rfl rfl rfl) (jT 4 rfl (jn rfl) (jT 5 rfl (jp 1 rfl rfl rfl) ?_))))))
  refine jee 6 12 rfl rfl ?_ ?_
  ·refine WL.callP [3, 3, 3, 3, 3] rfl rfl (tRemove D.A d.top hD.abs c.id _) rfl ?_
   rintro _ I1 _ hI1 ⟨_, B, rfl, ⟨kv, rfl, hkv, hid⟩, hb, rfl, hB⟩
   obtain ⟨ka, kc, rfl⟩ := hkv.sl
   refine jW ?_
   refine jC (j9 [1, 2] (hI1) rfl (jT 7 rfl (Val.moveT rfl) (jT 8 rfl (Val.extractA rfl rfl) (jT 9 rfl (jq rfl rfl) (jT 10 rfl (jq rfl rfl) (jT 11 rfl (jq rfl rfl) (j5 12 rfl (WL.alloc rfl (fun _ => ?_)))))))))
   rename_i g6
   refine jW ?_
   refine jC (j9 [1, 2] (hI1) rfl (j5 13 rfl (WL.stA 10 rfl rfl rfl rfl ?_)))
   refine jC (j9 [1, 2] (hI1) rfl (jT 14 rfl (Val.assignI rfl) (jT 15 rfl (Val.assignI rfl) (jT 16 rfl (Val.assignI rfl) (j6 (WX.conv (fun w h => Sat.fold B.hp (h.sub [5, 5, 5, 5, 5, 0, 0, 0, 0, 0, 0] rfl)) ?_))))))
   refine WX.thenK (WK.meet ?_)
   exact ⟨_, B, g6, hI1, hb, hB, hkv, hid, rfl, rfl, rfl, rfl, rfl, rfl, rfl, rfl⟩
  ·skip
   refine WL.alloc rfl (fun _ => ?_)
   rename_i g6
   refine jW ?_
   refine jC (j7 [1, 7] rfl (j5 6 rfl (WL.callP [3, 3, 3, 3, 3] rfl rfl (tRemove D.A d.top hD.abs c.id _) rfl ?_)))
   rintro _ I1 _ hI1 ⟨_, B, rfl, ⟨kv, rfl, hkv, hid⟩, hb, rfl, hB⟩
   obtain ⟨ka, kc, rfl⟩ := hkv.sl
   refine jW ?_
   refine jC (j9 [1, 2] (hI1) rfl (jT 7 rfl (Val.moveT rfl) (jT 8 rfl (Val.extractA rfl rfl) (jT 9 rfl (jq rfl rfl) (jT 10 rfl (jq rfl rfl) (jT 11 rfl (jq rfl rfl) (j5 13 rfl (WL.stA 5 rfl rfl rfl rfl ?_))))))))
   refine jC (j9 [1, 2] (hI1) rfl (jT 14 rfl (Val.assignI rfl) (jT 15 rfl (Val.assignI rfl) (jT 16 rfl (Val.assignI rfl) (j6 (WX.conv (fun w h => Sat.fold B.hp (h.sub [6, 6, 6, 6, 6, 0, 0, 0, 0, 0, 0] rfl)) ?_))))))
   refine WX.thenK (WK.meet ?_)
   exact ⟨_, B, g6, hI1, hb, hB, hkv, hid, rfl, rfl, rfl, rfl, rfl, rfl, rfl, rfl⟩
 rintro ρ' I1 L' ⟨kv, B, g6, hI1, hb, hB, hkv, hid, r0, r3, r4, r6, r7, r8, r9, rfl⟩
 refine ju7 r9 r8 r7 r6 r4 r3 r0 ?_
 rw [← hb]
 by_cases h2 : (Nd.remove d.top c.id).2.2.2.2 = 0
 case neg =>
  rw [if_pos h2]
  have hrt : (Nd.remove d.top c.id).1 = d.top := by
   rcases hD.abs.rem c.id with ⟨_, h⟩ | ⟨p, k, hk, _, _, _, _, _, e, _⟩
   ·exact h
   ·rw [e] at h2; exact absurd rfl h2
  refine jB (jS (ja rfl (jJ rfl rfl (jM (jF (jS (jm (Val.build0) ?_)))))))
  refine ja rfl (WL.stA 5 rfl rfl rfl rfl ?_)
  refine jf rfl (jM (jR (jU (WX.conv (fun w h => (Sat.unfold h).sub [5, 5, 5, 0, 0, 0, 0, 0, 1] rfl) ?_))))
  refine jP [0, 0, 0, 0, 0, 0, 0] (jr2 rfl (jcL 8 rfl rfl rfl) (jtI rfl)) ?_
  rw [hrt] at hB
  exact ⟨{ D with A := B }, _, rfl, Cm.z_rep _, rfl, rfl, ⟨hB, hD.rep.mono hI1, hD.segs, hD.dom, hD.lim⟩, UpdF.refl _ _ _⟩
 rw [if_neg (fun e => e h2)]
 obtain ⟨s1, s2, s3, s4⟩ := hD.abs.rem_small h2
 obtain ⟨o1, o2, o3, o4, o5⟩ := hD.abs.rem_nodup h2
 have hcnt := hD.abs.count_rem h2
 generalize (Nd.remove d.top c.id).1 = top' at *
 generalize (Nd.remove d.top c.id).2.1 = nd at *
 generalize (Nd.remove d.top c.id).2.2.1 = rp at *
 generalize (Nd.remove d.top c.id).2.2.2.1 = ri at *
 have hkv0 := hkv
 obtain ⟨ka, kc, rfl⟩ := hkv.sl
 refine jB (jS (ja rfl (jz rfl rfl (jM (jE (jV (jK (jd rfl (jm (jt 6 rfl rfl rfl) (WL.callR [2, 2] rfl rfl rfl (entries_ctr d.at_ D.f D.b B.b D.mb D.cnt D.segs hD.lim _ nd (Nat.le_refl _) _ _ (by omega) hkv0 hid (hD.rep.mono hI1)) rfl ?_))))))))))
 rintro v I2 hI2 hv
 have hlen := ents_len (fun i => (d.at_ i).getD Atr.z) nd
 have hids := ents_ids (fun i => (d.at_ i).getD Atr.z) nd
 have hlm : ∀ x ∈ ents (fun i => (d.at_ i).getD Atr.z) nd, x.atr.path.length ≤ 1000000 := fun x hx => by
  rw [ents_atr hx]
  show ((d.at_ x.id).getD Atr.z).path.length ≤ _
  cases h : d.at_ x.id with
  | none => exact Nat.zero_le _
  | some a => exact (hD.lim _ _ h).1
 have hnn := segsOf_nonneg (ents (fun i => (d.at_ i).getD Atr.z) nd)
 generalize ents (fun i => (d.at_ i).getD Atr.z) nd = l at *
 have hv0 := hv
 obtain ⟨la, lc, rfl⟩ := hv.sl
 have hds := hD.segs
 rw [hds]
 refine jh rfl (jM (jB (jS (jc rfl (jm (jo rfl) (ja rfl (jM (WC.block ?_))))))))
 have hJ2 := hI1.trans hI2
 refine WC.loop (fun n ρ' I' L' => ∃ (k : Nat) (f' : Int → Option Value) (cnt' : Nat), n = l.length - k ∧ k ≤ l.length ∧ I' = I2 ∧ ρ' 0 = ptr D.b ∧ ρ' 4 = ptr g4 ∧ ρ' 7 = vi rp ∧ ρ' 8 = vi ri ∧ ρ' 10 = .slice la l.length lc ∧ ρ' 32 = .slice la l.length lc ∧ ρ' 33 = vi l.length ∧ ρ' 34 = vi k ∧
   L' = [sts B.hp, F, docBox D.b B.b D.mb (d.segs - segsOf (l.take k)), mp D.mb f' cnt', box g3 59 (c.cs (.slice x0 c.ents.length y0) (.slice x1 c.atr.sty.fill.stops.length y1) (.slice x2 c.atr.sty.pen.stops.length y2) (.slice x3 c.atr.sty.dash.length y3) (.slice x4 c.atr.path.length y4)), box g4 59 (Cm.cs Cm.z (.slice none 0 0) (.slice none 0 0) (.slice none 0 0) (.slice none 0 0) (.slice none 0 0)), box g6 72 [vi nd.id, .bool nd.grp, .slice ka nd.kids.length kc]] ∧ AtRep I2 (dropAll d.at_ (l.take k)) f' ∧ UpdF I D.f I2 f')
  l.length ⟨0, D.f, D.cnt, rfl, by omega, rfl, rfl, rfl, rfl, rfl, rfl, rfl, rfl, rfl, by rw [List.take_zero]; show _ = [_, _, docBox _ _ _ (d.segs - 0), _, _, _, _]; rw [Int.sub_zero], hD.rep.mono hJ2, UpdF.refl _ _ _⟩ ?_
 rintro n ρ' I3 L' ⟨k, f', cnt', rfl, hk, rfl, r0, r4, r7, r8, r10, r32, r33, r34, rfl, hrep, hup⟩
 refine ju8 r34 r33 r32 r10 r8 r7 r4 r0 ?_
 by_cases hkn : k < l.length
 ·obtain ⟨b, off, cap', cs, he, ⟨t1, t2, t3, t4, rfl, hi⟩, hA⟩ := hv0.get k hkn
  cases he
  have hds2 := dropAll_snoc (l.take k) d.at_ l[k]
  have hss := segsOf_snoc (l.take k) l[k]
  rw [← List.take_succ_eq_append_getElem hkn] at hds2 hss
  have hb1 := segsOf_le (m := 1000000) (l := l.take k) fun x hx => hlm x (List.mem_of_mem_take hx)
  have hb0 := segsOf_nonneg (l.take k)
  rw [List.length_take, Nat.min_eq_left (by omega)] at hb1
  have hlk := hlm _ (List.getElem_mem hkn)
  have hlll : (l.length : Int) ≤ 100000 := by omega
  obtain ⟨b1, d1, b2, d2, b3, d3, b4, d4, rfl, rfl, rfl, rfl⟩ := hi.sl
  generalize l[k] = x at *
  refine jS (jy rfl rfl (jM (jB (jF (jV (jA (jB (WC.block (jS (jm (jZ rfl rfl) (jm (Val.loadI rfl (by assumption) rfl) ?_)))))))))))
  refine WL.alloc rfl (fun _ => ?_)
  refine jW ?_
  refine WL.stA 7 rfl rfl rfl rfl ?_
  refine jM (jB (j8 11 [2, 6] rfl (jT 0 rfl (Val.moveP rfl) (jT 1 rfl (jr rfl) (jT 2 rfl (jn rfl) (jT 3 rfl (jp 0 rfl rfl rfl) (jT 4 rfl (jn rfl) (jT 5 rfl (jn rfl) (jT 6 rfl (jp 1 rfl rfl rfl) (jT 7 rfl (jo rfl) (jT 8 rfl (Val.sub rfl rfl (wrap_i64 (by omega) (by omega))) ?_)))))))))))
  refine j5 9 rfl (jm (jr rfl) (jC (j7 [2, 6] rfl (j5 10 rfl (jm (jn rfl) (jC (j7 [2, 6] rfl (j5 11 rfl (WL.stI 2 rfl rfl rfl rfl ?_)))))))))
  refine jC (WK.anyLast (WA.done (by kernel_rfl) (jA (j8 999 [2, 6] rfl (jT 0 rfl (Val.moveP rfl) (jT 1 rfl (jr rfl) (jT 2 rfl (jn rfl) (jT 3 rfl (jp 0 rfl rfl rfl) (jT 4 rfl (jn rfl) (jT 5 rfl (jp 1 rfl rfl rfl) (j5 6 rfl (WL.delete 3 rfl rfl rfl ?_))))))))))))
  refine WL.nSet ?_
  refine jC (j7 [2, 6] rfl (j6 (WX.inNormal (jA (jD (jX rfl rfl (ja rfl (jC ?_))))))))
  rw [show d.segs - segsOf (l.take k) - (x.atr.path.length : Int) = d.segs - segsOf (l.take (k + 1)) by omega]
  refine WX.conv (fun w h => h.sub [0, 0, 0, 0, 0, 0, 0] rfl) ?_
  refine WX.thenK (WK.round (l.length - (k + 1)) (by omega) ⟨k + 1, _, _, rfl, by omega, rfl, rfl, rfl, rfl, rfl, rfl, rfl, rfl, rfl, rfl, ?_, hup.del _⟩)
  rw [hds2]
  exact hrep.down _
 ·have hkl : k = l.length := by omega
  subst hkl
  rw [List.take_length] at hrep ⊢
  refine jS (jx rfl rfl (jM (jB (jE (WC.exit (WX.thenExit (WX.thenExit (WX.inHit (jK (ja rfl (ja rfl (jc rfl (jm (Val.build (cs := (Cm.cs { Cm.z with kind := 1, parent := rp, index := ri, ents := l } (.slice la l.length lc) (.slice none 0 0) (.slice none 0 0) (.slice none 0 0) (.slice none 0 0))) rfl) ?_)))))))))))))
  refine WL.stA 5 rfl rfl rfl rfl ?_
  refine jf rfl (jM (jR (WX.conv (fun w h => (Sat.unfold h).sub [5, 5, 5, 0, 0, 0, 0, 0, 1] rfl) ?_)))
  exact jP [0, 0, 0, 0, 0, 0, 0] (jr2 rfl (jcL 8 rfl rfl rfl) (jtI rfl)) ⟨{ D with A := B, f := f', cnt := cnt', segs := d.segs - segsOf l }, _, rfl, ⟨_, _, _, _, _, rfl, (⟨by decide, by decide⟩ : I64 1), i64z, s1, s2, i64z, i64z, i64z, hv0, Atr.z_at _, Sg.z_ok, Pt.z_ok⟩, rfl, rfl, ⟨hB, hrep, rfl, dom_remove hD.dom hD.abs.od hids hcnt, fun i a h => hD.lim _ _ (dropAll_of _ _ _ _ h)⟩, hup⟩
theorem dApplyN (D : Dm) (d : Dr) (c : Cm) (e t u dd q : Value) (I : Mem) (hN : NeedAt I) (hD : DAbs I D d) (hc : c.at_ I e t u dd q) (hle : c.ents.length ≤ 100000) (hs0 : 0 ≤ d.segs) (hs1 : d.segs + segsOf c.ents ≤ 1048576) :
  Ctr Tryz.prog 24 [ptr D.b, .agg (c.cs e t u dd q).toArray] I D.hp (ApplyN (d.apply c) D I) := by
 have hc0 := hc
 have hsg := segsOf_nonneg c.ents
 obtain ⟨a0, c0, a1, c1, a2, c2, a3, c3, a4, c4, rfl, rfl, rfl, rfl, rfl⟩ := hc.sl
 refine Ctr.intro Tryz.func24 rfl rfl rfl fun E F => ?_
 by_cases k1 : c.kind = 1
 ·rw [show d.apply c = d.add c by rw [Dr.apply, if_pos k1]]
  refine jS (WL.boxA rfl rfl (fun _ => ?_))
  refine jW ?_
  refine WL.alloc rfl (fun _ => ?_)
  refine jW ?_
  refine jf rfl (jM (jB (jS (jm (jn rfl) (jm (jp 8 rfl rfl rfl) (jM (WC.block (jS (jw rfl rfl (jg rfl (jM (jF (jS (jd rfl (jm (jt 8 rfl rfl rfl) (WL.callP [1, 1, 1, 1, 1, 1, 1] rfl rfl (dAdd D d c _ _ _ _ _ _ hN hD hc0 hle hs0 hs1) rfl ?_))))))))))))))))
  rintro _ I1 _ hI1 ⟨D', bcs, rfl, ⟨e', t', u', d', q', rfl, hbk⟩, hb, rfl, hD'⟩
  have hbk0 := hbk
  obtain ⟨_, _, _, _, _, _, _, _, _, _, rfl, rfl, rfl, rfl, rfl⟩ := hbk.sl
  refine jW ?_
  refine jm (Val.extractA rfl rfl) (jm (jq rfl rfl) (WL.stA 2 rfl rfl rfl rfl ?_))
  refine jf rfl (jM (jR (WX.inRet (jU ?_))))
  exact jP [2, 2, 2, 2, 2, 2, 2] (jr2 rfl (jcL 2 rfl rfl rfl) (jtI rfl)) ⟨D', _, rfl, ⟨_, _, _, _, _, rfl, hbk0⟩, hb, rfl, hD'⟩
 by_cases k2 : c.kind = 2
 ·rw [show d.apply c = d.remove c by rw [Dr.apply, if_neg k1, if_pos k2]]
  refine jS (WL.boxA rfl rfl (fun _ => ?_))
  refine jW ?_
  refine WL.alloc rfl (fun _ => ?_)
  refine jW ?_
  refine jf rfl (jM (jB (jS (jm (jn rfl) (jm (jp 8 rfl rfl rfl) (jM (WC.block (jCf rfl rfl (jS (jw rfl rfl (jg rfl (jM (jF (jS (jd rfl (jm (jt 8 rfl rfl rfl) (WL.callP [1, 1, 1, 1, 1, 1, 1] rfl rfl (dRemove D d c _ _ _ _ _ _ hD hc0 hs0 (by omega)) rfl ?_)))))))))))))))))
  rintro _ I1 _ hI1 ⟨D', bcs, rfl, ⟨e', t', u', d', q', rfl, hbk⟩, hb, rfl, hD'⟩
  have hbk0 := hbk
  obtain ⟨_, _, _, _, _, _, _, _, _, _, rfl, rfl, rfl, rfl, rfl⟩ := hbk.sl
  refine jW ?_
  refine jm (Val.extractA rfl rfl) (jm (jq rfl rfl) (WL.stA 2 rfl rfl rfl rfl ?_))
  refine jf rfl (jM (jR (WX.inRet (jU ?_))))
  exact jP [2, 2, 2, 2, 2, 2, 2] (jr2 rfl (jcL 2 rfl rfl rfl) (jtI rfl)) ⟨D', _, rfl, ⟨_, _, _, _, _, rfl, hbk0⟩, hb, rfl, hD'⟩
 by_cases k3 : c.kind = 3
 ·rw [show d.apply c = d.move c by rw [Dr.apply, if_neg k1, if_neg k2, if_pos k3]]
  refine jS (WL.boxA rfl rfl (fun _ => ?_))
  refine jW ?_
  refine WL.alloc rfl (fun _ => ?_)
  refine jW ?_
  refine jf rfl (jM (jB (jS (jm (jn rfl) (jm (jp 8 rfl rfl rfl) (jM (WC.block (jCf rfl rfl (jCf rfl rfl (jS (jw rfl rfl (jg rfl (jM (jF (jS (jd rfl (jm (jt 8 rfl rfl rfl) (WL.callP [1, 1, 1, 1, 1, 1, 1] rfl rfl (dMove D d c _ _ _ _ _ _ hD hc0) rfl ?_))))))))))))))))))
  rintro _ I1 _ hI1 ⟨D', bcs, rfl, ⟨e', t', u', d', q', rfl, hbk⟩, hb, rfl, hD'⟩
  have hbk0 := hbk
  obtain ⟨_, _, _, _, _, _, _, _, _, _, rfl, rfl, rfl, rfl, rfl⟩ := hbk.sl
  refine jW ?_
  refine jm (Val.extractA rfl rfl) (jm (jq rfl rfl) (WL.stA 2 rfl rfl rfl rfl ?_))
  refine jf rfl (jM (jR (WX.inRet (jU ?_))))
  exact jP [2, 2, 2, 2, 2, 2, 2] (jr2 rfl (jcL 2 rfl rfl rfl) (jtI rfl)) ⟨D', _, rfl, ⟨_, _, _, _, _, rfl, hbk0⟩, hb, rfl, hD'⟩
 by_cases k4 : c.kind = 4
 ·rw [show d.apply c = d.wrap c by rw [Dr.apply, if_neg k1, if_neg k2, if_neg k3, if_pos k4]]
  refine jS (WL.boxA rfl rfl (fun _ => ?_))
  refine jW ?_
  refine WL.alloc rfl (fun _ => ?_)
  refine jW ?_
  refine jf rfl (jM (jB (jS (jm (jn rfl) (jm (jp 8 rfl rfl rfl) (jM (WC.block (jCf rfl rfl (jCf rfl rfl (jCf rfl rfl (jS (jw rfl rfl (jg rfl (jM (jF (jS (jd rfl (jm (jt 8 rfl rfl rfl) (WL.callP [1, 1, 1, 1, 1, 1, 1] rfl rfl (dWrap D d c _ _ _ _ _ _ hN hD hc0) rfl ?_)))))))))))))))))))
  rintro _ I1 _ hI1 ⟨D', bcs, rfl, ⟨e', t', u', d', q', rfl, hbk⟩, hb, rfl, hD'⟩
  have hbk0 := hbk
  obtain ⟨_, _, _, _, _, _, _, _, _, _, rfl, rfl, rfl, rfl, rfl⟩ := hbk.sl
  refine jW ?_
  refine jm (Val.extractA rfl rfl) (jm (jq rfl rfl) (WL.stA 2 rfl rfl rfl rfl ?_))
  refine jf rfl (jM (jR (WX.inRet (jU ?_))))
  exact jP [2, 2, 2, 2, 2, 2, 2] (jr2 rfl (jcL 2 rfl rfl rfl) (jtI rfl)) ⟨D', _, rfl, ⟨_, _, _, _, _, rfl, hbk0⟩, hb, rfl, hD'⟩
 by_cases k5 : c.kind = 5
 ·rw [show d.apply c = d.unwrap c by rw [Dr.apply, if_neg k1, if_neg k2, if_neg k3, if_neg k4, if_pos k5]]
  refine jS (WL.boxA rfl rfl (fun _ => ?_))
  refine jW ?_
  refine WL.alloc rfl (fun _ => ?_)
  refine jW ?_
  refine jf rfl (jM (jB (jS (jm (jn rfl) (jm (jp 8 rfl rfl rfl) (jM (WC.block (jCf rfl rfl (jCf rfl rfl (jCf rfl rfl (jCf rfl rfl (jS (jw rfl rfl (jg rfl (jM (jF (jS (jd rfl (jm (jt 8 rfl rfl rfl) (WL.callP [1, 1, 1, 1, 1, 1, 1] rfl rfl (dUnwrap D d c _ _ _ _ _ _ hD hc0) rfl ?_))))))))))))))))))))
  rintro _ I1 _ hI1 ⟨D', bcs, rfl, ⟨e', t', u', d', q', rfl, hbk⟩, hb, rfl, hD'⟩
  have hbk0 := hbk
  obtain ⟨_, _, _, _, _, _, _, _, _, _, rfl, rfl, rfl, rfl, rfl⟩ := hbk.sl
  refine jW ?_
  refine jm (Val.extractA rfl rfl) (jm (jq rfl rfl) (WL.stA 2 rfl rfl rfl rfl ?_))
  refine jf rfl (jM (jR (WX.inRet (jU ?_))))
  exact jP [2, 2, 2, 2, 2, 2, 2] (jr2 rfl (jcL 2 rfl rfl rfl) (jtI rfl)) ⟨D', _, rfl, ⟨_, _, _, _, _, rfl, hbk0⟩, hb, rfl, hD'⟩
 by_cases k6 : 6 ≤ c.kind ∧ c.kind ≤ 12
 ·rw [show d.apply c = d.set c by rw [Dr.apply, if_neg k1, if_neg k2, if_neg k3, if_neg k4, if_neg k5, if_pos k6]]
  obtain ⟨k6, k12⟩ := k6
  have hk : c.kind = 6 ∨ c.kind = 7 ∨ c.kind = 8 ∨ c.kind = 9 ∨ c.kind = 10 ∨ c.kind = 11 ∨ c.kind = 12 := by omega
  rcases hk with hk | hk | hk | hk | hk | hk | hk
  ·skip
   refine jS (WL.boxA rfl rfl (fun _ => ?_))
   refine jW ?_
   refine WL.alloc rfl (fun _ => ?_)
   refine jW ?_
   refine jf rfl (jM (jB (jS (jm (jn rfl) (jm (jp 8 rfl rfl rfl) (jM (WC.block (jCf rfl rfl (jCf rfl rfl (jCf rfl rfl (jCf rfl rfl (jCf rfl rfl (jB (jS (jw rfl rfl (jg rfl (jM (jF (jV (jA (jF (jS (jd rfl (jm (jt 8 rfl rfl rfl) (WL.callP [1, 1, 1, 1, 1, 1, 1] rfl rfl (dSet D d c _ _ _ _ _ _ hN hD hc0 (by omega) (by omega) hs0 (by omega)) rfl ?_)))))))))))))))))))))))))
   rintro _ I1 _ hI1 ⟨D', bcs, rfl, ⟨e', t', u', d', q', rfl, hbk⟩, hb, rfl, hD'⟩
   have hbk0 := hbk
   obtain ⟨_, _, _, _, _, _, _, _, _, _, rfl, rfl, rfl, rfl, rfl⟩ := hbk.sl
   refine jW ?_
   refine jm (Val.extractA rfl rfl) (jm (jq rfl rfl) (WL.stA 2 rfl rfl rfl rfl ?_))
   refine jf rfl (jM (jR (WX.inRet (jU ?_))))
   exact jP [2, 2, 2, 2, 2, 2, 2] (jr2 rfl (jcL 2 rfl rfl rfl) (jtI rfl)) ⟨D', _, rfl, ⟨_, _, _, _, _, rfl, hbk0⟩, hb, rfl, hD'⟩
  ·skip
   refine jS (WL.boxA rfl rfl (fun _ => ?_))
   refine jW ?_
   refine WL.alloc rfl (fun _ => ?_)
   refine jW ?_
   refine jf rfl (jM (jB (jS (jm (jn rfl) (jm (jp 8 rfl rfl rfl) (jM (WC.block (jCf rfl rfl (jCf rfl rfl (jCf rfl rfl (jCf rfl rfl (jCf rfl rfl (jB (jCf rfl rfl (jS (jw rfl rfl (jg rfl (jM (jF (jV (jA (jF (jS (jd rfl (jm (jt 8 rfl rfl rfl) (WL.callP [1, 1, 1, 1, 1, 1, 1] rfl rfl (dSet D d c _ _ _ _ _ _ hN hD hc0 (by omega) (by omega) hs0 (by omega)) rfl ?_))))))))))))))))))))))))))
   rintro _ I1 _ hI1 ⟨D', bcs, rfl, ⟨e', t', u', d', q', rfl, hbk⟩, hb, rfl, hD'⟩
   have hbk0 := hbk
   obtain ⟨_, _, _, _, _, _, _, _, _, _, rfl, rfl, rfl, rfl, rfl⟩ := hbk.sl
   refine jW ?_
   refine jm (Val.extractA rfl rfl) (jm (jq rfl rfl) (WL.stA 2 rfl rfl rfl rfl ?_))
   refine jf rfl (jM (jR (WX.inRet (jU ?_))))
   exact jP [2, 2, 2, 2, 2, 2, 2] (jr2 rfl (jcL 2 rfl rfl rfl) (jtI rfl)) ⟨D', _, rfl, ⟨_, _, _, _, _, rfl, hbk0⟩, hb, rfl, hD'⟩
  ·skip
   refine jS (WL.boxA rfl rfl (fun _ => ?_))
   refine jW ?_
   refine WL.alloc rfl (fun _ => ?_)
   refine jW ?_
   refine jf rfl (jM (jB (jS (jm (jn rfl) (jm (jp 8 rfl rfl rfl) (jM (WC.block (jCf rfl rfl (jCf rfl rfl (jCf rfl rfl (jCf rfl rfl (jCf rfl rfl (jB (jCf rfl rfl (jCf rfl rfl (jS (jw rfl rfl (jg rfl (jM (jF (jV (jA (jF (jS (jd rfl (jm (jt 8 rfl rfl rfl) (WL.callP [1, 1, 1, 1, 1, 1, 1] rfl rfl (dSet D d c _ _ _ _ _ _ hN hD hc0 (by omega) (by omega) hs0 (by omega)) rfl ?_)))))))))))))))))))))))))))
   rintro _ I1 _ hI1 ⟨D', bcs, rfl, ⟨e', t', u', d', q', rfl, hbk⟩, hb, rfl, hD'⟩
   have hbk0 := hbk
   obtain ⟨_, _, _, _, _, _, _, _, _, _, rfl, rfl, rfl, rfl, rfl⟩ := hbk.sl
   refine jW ?_
   refine jm (Val.extractA rfl rfl) (jm (jq rfl rfl) (WL.stA 2 rfl rfl rfl rfl ?_))
   refine jf rfl (jM (jR (WX.inRet (jU ?_))))
   exact jP [2, 2, 2, 2, 2, 2, 2] (jr2 rfl (jcL 2 rfl rfl rfl) (jtI rfl)) ⟨D', _, rfl, ⟨_, _, _, _, _, rfl, hbk0⟩, hb, rfl, hD'⟩
  ·skip
   refine jS (WL.boxA rfl rfl (fun _ => ?_))
   refine jW ?_
   refine WL.alloc rfl (fun _ => ?_)
   refine jW ?_
   refine jf rfl (jM (jB (jS (jm (jn rfl) (jm (jp 8 rfl rfl rfl) (jM (WC.block (jCf rfl rfl (jCf rfl rfl (jCf rfl rfl (jCf rfl rfl (jCf rfl rfl (jB (jCf rfl rfl (jCf rfl rfl (jCf rfl rfl (jS (jw rfl rfl (jg rfl (jM (jF (jV (jA (jF (jS (jd rfl (jm (jt 8 rfl rfl rfl) (WL.callP [1, 1, 1, 1, 1, 1, 1] rfl rfl (dSet D d c _ _ _ _ _ _ hN hD hc0 (by omega) (by omega) hs0 (by omega)) rfl ?_))))))))))))))))))))))))))))
   rintro _ I1 _ hI1 ⟨D', bcs, rfl, ⟨e', t', u', d', q', rfl, hbk⟩, hb, rfl, hD'⟩
   have hbk0 := hbk
   obtain ⟨_, _, _, _, _, _, _, _, _, _, rfl, rfl, rfl, rfl, rfl⟩ := hbk.sl
   refine jW ?_
   refine jm (Val.extractA rfl rfl) (jm (jq rfl rfl) (WL.stA 2 rfl rfl rfl rfl ?_))
   refine jf rfl (jM (jR (WX.inRet (jU ?_))))
   exact jP [2, 2, 2, 2, 2, 2, 2] (jr2 rfl (jcL 2 rfl rfl rfl) (jtI rfl)) ⟨D', _, rfl, ⟨_, _, _, _, _, rfl, hbk0⟩, hb, rfl, hD'⟩
  ·skip
   refine jS (WL.boxA rfl rfl (fun _ => ?_))
   refine jW ?_
   refine WL.alloc rfl (fun _ => ?_)
   refine jW ?_
   refine jf rfl (jM (jB (jS (jm (jn rfl) (jm (jp 8 rfl rfl rfl) (jM (WC.block (jCf rfl rfl (jCf rfl rfl (jCf rfl rfl (jCf rfl rfl (jCf rfl rfl (jB (jCf rfl rfl (jCf rfl rfl (jCf rfl rfl (jCf rfl rfl (jS (jw rfl rfl (jg rfl (jM (jF (jV (jA (jF (jS (jd rfl (jm (jt 8 rfl rfl rfl) (WL.callP [1, 1, 1, 1, 1, 1, 1] rfl rfl (dSet D d c _ _ _ _ _ _ hN hD hc0 (by omega) (by omega) hs0 (by omega)) rfl ?_)))))))))))))))))))))))))))))
   rintro _ I1 _ hI1 ⟨D', bcs, rfl, ⟨e', t', u', d', q', rfl, hbk⟩, hb, rfl, hD'⟩
   have hbk0 := hbk
   obtain ⟨_, _, _, _, _, _, _, _, _, _, rfl, rfl, rfl, rfl, rfl⟩ := hbk.sl
   refine jW ?_
   refine jm (Val.extractA rfl rfl) (jm (jq rfl rfl) (WL.stA 2 rfl rfl rfl rfl ?_))
   refine jf rfl (jM (jR (WX.inRet (jU ?_))))
   exact jP [2, 2, 2, 2, 2, 2, 2] (jr2 rfl (jcL 2 rfl rfl rfl) (jtI rfl)) ⟨D', _, rfl, ⟨_, _, _, _, _, rfl, hbk0⟩, hb, rfl, hD'⟩
  ·skip
   refine jS (WL.boxA rfl rfl (fun _ => ?_))
   refine jW ?_
   refine WL.alloc rfl (fun _ => ?_)
   refine jW ?_
   refine jf rfl (jM (jB (jS (jm (jn rfl) (jm (jp 8 rfl rfl rfl) (jM (WC.block (jCf rfl rfl (jCf rfl rfl (jCf rfl rfl (jCf rfl rfl (jCf rfl rfl (jB (jCf rfl rfl (jCf rfl rfl (jCf rfl rfl (jCf rfl rfl (jCf rfl rfl (jS (jw rfl rfl (jg rfl (jM (jF (jV (jA (jF (jS (jd rfl (jm (jt 8 rfl rfl rfl) (WL.callP [1, 1, 1, 1, 1, 1, 1] rfl rfl (dSet D d c _ _ _ _ _ _ hN hD hc0 (by omega) (by omega) hs0 (by omega)) rfl ?_))))))))))))))))))))))))))))))
   rintro _ I1 _ hI1 ⟨D', bcs, rfl, ⟨e', t', u', d', q', rfl, hbk⟩, hb, rfl, hD'⟩
   have hbk0 := hbk
   obtain ⟨_, _, _, _, _, _, _, _, _, _, rfl, rfl, rfl, rfl, rfl⟩ := hbk.sl
   refine jW ?_
   refine jm (Val.extractA rfl rfl) (jm (jq rfl rfl) (WL.stA 2 rfl rfl rfl rfl ?_))
   refine jf rfl (jM (jR (WX.inRet (jU ?_))))
   exact jP [2, 2, 2, 2, 2, 2, 2] (jr2 rfl (jcL 2 rfl rfl rfl) (jtI rfl)) ⟨D', _, rfl, ⟨_, _, _, _, _, rfl, hbk0⟩, hb, rfl, hD'⟩
  ·skip
   refine jS (WL.boxA rfl rfl (fun _ => ?_))
   refine jW ?_
   refine WL.alloc rfl (fun _ => ?_)
   refine jW ?_
   refine jf rfl (jM (jB (jS (jm (jn rfl) (jm (jp 8 rfl rfl rfl) (jM (WC.block (jCf rfl rfl (jCf rfl rfl (jCf rfl rfl (jCf rfl rfl (jCf rfl rfl (jB (jCf rfl rfl (jCf rfl rfl (jCf rfl rfl (jCf rfl rfl (jCf rfl rfl (jCf rfl rfl (jD (jw rfl rfl (jg rfl (jM (jF (jS (jd rfl (jm (jt 8 rfl rfl rfl) (WL.callP [1, 1, 1, 1, 1, 1, 1] rfl rfl (dSet D d c _ _ _ _ _ _ hN hD hc0 (by omega) (by omega) hs0 (by omega)) rfl ?_))))))))))))))))))))))))))))
   rintro _ I1 _ hI1 ⟨D', bcs, rfl, ⟨e', t', u', d', q', rfl, hbk⟩, hb, rfl, hD'⟩
   have hbk0 := hbk
   obtain ⟨_, _, _, _, _, _, _, _, _, _, rfl, rfl, rfl, rfl, rfl⟩ := hbk.sl
   refine jW ?_
   refine jm (Val.extractA rfl rfl) (jm (jq rfl rfl) (WL.stA 2 rfl rfl rfl rfl ?_))
   refine jf rfl (jM (jR (WX.inRet (jU ?_))))
   exact jP [2, 2, 2, 2, 2, 2, 2] (jr2 rfl (jcL 2 rfl rfl rfl) (jtI rfl)) ⟨D', _, rfl, ⟨_, _, _, _, _, rfl, hbk0⟩, hb, rfl, hD'⟩
 ·rw [show d.apply c = (d, Cm.z, 33) by rw [Dr.apply, if_neg k1, if_neg k2, if_neg k3, if_neg k4, if_neg k5, if_neg k6]]
  have hk : c.kind < 1 ∨ 12 < c.kind := by omega
  rcases hk with hk | hk
  ·skip
   refine jS (WL.boxA rfl rfl (fun _ => ?_))
   refine jW ?_
   refine WL.alloc rfl (fun _ => ?_)
   refine jW ?_
   refine jf rfl (jM (jB (jS (jm (jn rfl) (jm (jp 8 rfl rfl rfl) (jM (WC.block (jCf rfl rfl (jCf rfl rfl (jCf rfl rfl (jCf rfl rfl (jCf rfl rfl (jB (jCf rfl rfl (jCf rfl rfl (jCf rfl rfl (jCf rfl rfl (jCf rfl rfl (jCf rfl rfl (jD (jv rfl rfl (jg rfl (jM (jE (jV (WX.inNormal (jK (jm (Val.build0) ?_))))))))))))))))))))))))))))
   refine WL.stA 9 rfl rfl rfl rfl ?_
   refine jf rfl (jM (jR ?_))
   exact jP [0, 0, 0, 0, 0, 0, 0] (jr2 rfl (jcL 9 rfl rfl rfl) (jtI rfl)) ⟨D, _, rfl, Cm.z_rep _, rfl, rfl, hD, UpdF.refl _ _ _⟩
  ·skip
   refine jS (WL.boxA rfl rfl (fun _ => ?_))
   refine jW ?_
   refine WL.alloc rfl (fun _ => ?_)
   refine jW ?_
   refine jf rfl (jM (jB (jS (jm (jn rfl) (jm (jp 8 rfl rfl rfl) (jM (WC.block (jCf rfl rfl (jCf rfl rfl (jCf rfl rfl (jCf rfl rfl (jCf rfl rfl (jB (jCf rfl rfl (jCf rfl rfl (jCf rfl rfl (jCf rfl rfl (jCf rfl rfl (jCf rfl rfl (jD (jv rfl rfl (jg rfl (jM (jE (jV (WX.inNormal (jK (jm (Val.build0) ?_))))))))))))))))))))))))))))
   refine WL.stA 9 rfl rfl rfl rfl ?_
   refine jf rfl (jM (jR ?_))
   exact jP [0, 0, 0, 0, 0, 0, 0] (jr2 rfl (jcL 9 rfl rfl rfl) (jtI rfl)) ⟨D, _, rfl, Cm.z_rep _, rfl, rfl, hD, UpdF.refl _ _ _⟩
end Go.Proofs.YtggcpoleklcmkaaGreatDoor

namespace Go.Dc
open Go.Sl Go.Ls Go.Tr
def Cm.small (c : Cm) : Prop := c.ents.length ≤ 40 ∧ c.atr.small ∧ ∀ x ∈ c.ents, x.atr.small
def smallL (l : List Cm) (m : Int) : Prop := (∀ c ∈ l, c.small) ∧ (l.length : Int) ≤ m
end Go.Dc
namespace Go.Proofs.YtggcpoleklcmkaaGreatDoor
open Go.Sl Go.Ls Go.Tr Go.Dc
end Go.Proofs.YtggcpoleklcmkaaGreatDoor

namespace Go.Dc
open Go.Sl Go.Ls Go.Tr
end Go.Dc
namespace Go.Proofs.YtggcpoleklcmkaaGreatDoor
open Go.Sl Go.Ls Go.Tr Go.Dc
attribute [local irreducible] WC WL WX WK WA WAK Val Ctr RunRes ResIs Rd At sl box pt Exit.then Exit.inBlock bodyPost Code.wp wpList
theorem small_ctr (l : List Cm) (m : Int) (v : Value) (I : Mem) (hv : LsAt Cm.rep I l v) : Ctr Tryz.prog 22 [v, vi m] I [] (Still I (EqP (smallL l m))) := by
 have hv0 := hv
 have hle := hv.le
 unfold maxLen at hle
 obtain ⟨a1, c1, rfl⟩ := hv.sl
 refine Ctr.intro Tryz.func22 rfl rfl rfl fun E F => ?_
 refine jS (jg rfl (jM (jB (jS (jc rfl (jm (jo rfl) (ja rfl (jM (WC.block ?_)))))))))
 refine WC.loop (fun n ρ' I' L' => ∃ k : Nat, n = l.length - k ∧ k ≤ l.length ∧ I' = I ∧ ρ' 0 = .slice a1 l.length c1 ∧ ρ' 1 = vi m ∧ ρ' 9 = .slice a1 l.length c1 ∧ ρ' 10 = vi l.length ∧ ρ' 11 = vi k ∧ L' = [F] ∧ ∀ c ∈ l.take k, c.small)
  l.length ⟨0, rfl, by omega, rfl, rfl, rfl, rfl, rfl, rfl, rfl, by simp⟩ ?_
 rintro n ρ' I0 L' ⟨k, rfl, hk, rfl, r0, r1, r9, r10, r11, rfl, hall⟩
 refine ju5 r11 r10 r9 r1 r0 ?_
 by_cases hkn : k < l.length
 ·obtain ⟨b, off, cap, cs, he, ⟨e, t, u, d, q, rfl, hc⟩, hA⟩ := hv0.get k hkn
  cases he
  have hmem := List.getElem_mem hkn
  have htk : l.take (k + 1) = l.take k ++ [l[k]] := by rw [List.take_succ_eq_append_getElem hkn]
  have hca := hc.atr
  have hce := hc.ents
  have hcl := hce.le
  unfold maxLen at hcl
  obtain ⟨x0, y0, x1, y1, x2, y2, x3, y3, x4, y4, rfl, rfl, rfl, rfl, rfl⟩ := hc.sl
  generalize l[k] = c at *
  by_cases h40 : 40 < c.ents.length
  ·skip
   refine jS (jy rfl rfl (jM (jB (jF (jV (jA (jB (WC.block (jS (jm (jZ rfl rfl) (jm (Val.loadI rfl (by assumption) rfl) ?_)))))))))))
   refine WL.alloc rfl (fun _ => ?_)
   refine jW ?_
   refine WL.stA 1 rfl rfl rfl rfl ?_
   refine jM (jB (jS (jm (jn rfl) (jm (jp 1 rfl rfl rfl) (jm (jo rfl) (jO rfl rfl (jb rfl (jH (jH (jH (jH (jk rfl (jM (jF (jS (jg rfl (jM (jR (jU (WX.inRet (jU (jU (WX.inRet (jU ?_))))))))))))))))))))))))
   exact jP [] (jr1 rfl (jtB rfl)) ⟨rfl, rfl, EqP.f fun e => by have := (e.1 c hmem).1; omega⟩
  refine jS (jy rfl rfl (jM (jB (jF (jV (jA (jB (WC.block (jS (jm (jZ rfl rfl) (jm (Val.loadI rfl (by assumption) rfl) ?_)))))))))))
  refine WL.alloc rfl (fun _ => ?_)
  refine jW ?_
  refine WL.stA 1 rfl rfl rfl rfl ?_
  refine jM (jB (jS (jm (jn rfl) (jm (jp 1 rfl rfl rfl) (jm (jo rfl) (jL rfl rfl (jb rfl (jG (jm (jn rfl) (jG (jm (jt 1 rfl rfl rfl) (jG ?_))))))))))))
  refine WL.callE rfl rfl (smallAttr_ctr c.atr _ _ _ _ _ hca) rfl (fun hs => ?_) (fun hs => ?_)
  case refine_2 =>
   refine jG (jl rfl (jk rfl (jM (jF (jS (jg rfl (jM (jR (jU (WX.inRet (jU (jU (WX.inRet (jU ?_))))))))))))))
   exact jP [] (jr1 rfl (jtB rfl)) ⟨rfl, rfl, EqP.f fun e => hs (e.1 c hmem).2.1⟩
  refine jG (jl rfl (jk rfl (jM (jE (jV (jK (jm (jn rfl) (jm (jp 1 rfl rfl rfl) (jm (jo rfl) (ja rfl (jM (WC.block (WC.conv (fun w h => h.sub [0] rfl) ?_)))))))))))))
  refine WC.loop (fun n ρ' I' L' => ∃ j : Nat, n = c.ents.length - j ∧ j ≤ c.ents.length ∧ I' = I0 ∧ ρ' 0 = .slice (some ⟨b, off, none⟩) l.length c1 ∧ ρ' 1 = vi m ∧ ρ' 9 = .slice (some ⟨b, off, none⟩) l.length c1 ∧ ρ' 10 = vi l.length ∧ ρ' 11 = vi k ∧ ρ' 26 = .slice x0 c.ents.length y0 ∧ ρ' 27 = vi c.ents.length ∧ ρ' 28 = vi j ∧ L' = [F] ∧ ∀ x ∈ c.ents.take j, x.atr.small)
   c.ents.length ⟨0, rfl, by omega, rfl, rfl, rfl, rfl, rfl, rfl, rfl, rfl, rfl, rfl, by simp⟩ ?_
  rintro n ρ' I1 L' ⟨j, rfl, hj, rfl, r0, r1, r9, r10, r11, r26, r27, r28, rfl, hallj⟩
  refine ju8 r28 r27 r26 r11 r10 r9 r1 r0 ?_
  by_cases hjn : j < c.ents.length
  ·obtain ⟨b5, off5, cap5, cs5, he5, ⟨t5, u5, d5, q5, rfl, hx⟩, hA5⟩ := hce.get j hjn
   cases he5
   have hmx := List.getElem_mem hjn
   have htj : c.ents.take (j + 1) = c.ents.take j ++ [c.ents[j]] := by rw [List.take_succ_eq_append_getElem hjn]
   have hxa := hx.atr
   obtain ⟨p1, o1, p2, o2, p3, o3, p4, o4, rfl, rfl, rfl, rfl⟩ := hx.sl
   generalize c.ents[j] = x at *
   refine jS (jy rfl rfl (jM (jB (jF (jV (jA (jB (WC.block (jS (jm (jZ rfl rfl) (jm (Val.loadI rfl (by assumption) rfl) ?_)))))))))))
   refine WL.alloc rfl (fun _ => ?_)
   refine jW ?_
   refine WL.stA 1 rfl rfl rfl rfl ?_
   refine jN (jm (jn rfl) (jm (jt 1 rfl rfl rfl) ?_))
   refine WL.callE rfl rfl (smallAttr_ctr x.atr _ _ _ _ _ hxa) rfl (fun hs2 => ?_) (fun hs2 => ?_)
   case refine_2 =>
    refine jl rfl (jM (jF (jS (jg rfl (jM (jR (WX.inRet (jU (jU (WX.inRet (WX.inRet (jU (jU (WX.inRet (jU ?_)))))))))))))))
    exact jP [] (jr1 rfl (jtB rfl)) ⟨rfl, rfl, EqP.f fun e => hs2 ((e.1 c hmem).2.2 x hmx)⟩
   refine jl rfl (jM (jE (jV (WX.inNormal (jA (jD (jX rfl rfl (ja rfl (jC (WX.conv (fun w h => h.sub [0] rfl) ?_))))))))))
   refine WX.thenK (WK.round (c.ents.length - (j + 1)) (by omega) ⟨j + 1, rfl, by omega, rfl, rfl, rfl, rfl, rfl, rfl, rfl, rfl, rfl, rfl, ?_⟩)
   rw [htj]
   intro y hy
   rcases List.mem_append.1 hy with hy | hy
   ·exact hallj y hy
   ·rw [List.mem_singleton.1 hy]; exact hs2
  ·have hje : j = c.ents.length := by omega
   subst hje
   rw [List.take_length] at hallj
   refine jS (jx rfl rfl (jM (jB (jE (WC.exit (WX.thenExit (WX.thenExit (WX.inHit (WX.inNormal (jA (jD (jX rfl rfl (ja rfl (jC ?_))))))))))))))
   refine WX.thenK (WK.round (l.length - (k + 1)) (by omega) ⟨k + 1, rfl, by omega, rfl, rfl, rfl, rfl, rfl, rfl, rfl, ?_⟩)
   rw [htk]
   intro y hy
   rcases List.mem_append.1 hy with hy | hy
   ·exact hall y hy
   ·rw [List.mem_singleton.1 hy]; exact ⟨by omega, hs, hallj⟩
 ·have hkl : k = l.length := by omega
  subst hkl
  rw [List.take_length] at hall
  by_cases hm : (l.length : Int) ≤ m
  ·skip
   refine jS (jx rfl rfl (jM (jB (jE (WC.exit (WX.thenExit (WX.thenExit (WX.inHit (jK (jc rfl (jm (jo rfl) (ja rfl (jm (Val.leq rfl rfl (decide_eq_true (by omega))) ?_)))))))))))))
   refine jg rfl (jM (jR ?_))
   exact jP [] (jr1 rfl (jtB rfl)) ⟨rfl, rfl, EqP.t ⟨hall, hm⟩⟩
  ·skip
   refine jS (jx rfl rfl (jM (jB (jE (WC.exit (WX.thenExit (WX.thenExit (WX.inHit (jK (jc rfl (jm (jo rfl) (ja rfl (jm (Val.leq rfl rfl (decide_eq_false (by omega))) ?_)))))))))))))
   refine jg rfl (jM (jR ?_))
   exact jP [] (jr1 rfl (jtB rfl)) ⟨rfl, rfl, EqP.f fun e => hm e.2⟩
end Go.Proofs.YtggcpoleklcmkaaGreatDoor

namespace Go.Tr
open Go.Sl Go.Ls
namespace Nd
mutual
def gs : Nd → List (Int × Bool)
 | .mk i g ks => (i, g) :: gss ks
def gss : List Nd → List (Int × Bool)
 | [] => []
 | k :: ks => gs k ++ gss ks
end
theorem gss_app : ∀ (a b : List Nd), gss (a ++ b) = gss a ++ gss b
 | [], b => by rw [gss]; rfl
 | x :: a, b => by rw [List.cons_append, gss, gss, gss_app a b, List.append_assoc]
theorem gs_eq (n : Nd) : n.gs = (n.id, n.grp) :: gss n.kids := by cases n; rw [gs]; rfl
theorem order_gs (n : Nd) : n.gs.map Prod.fst = n.order := by
 refine Nd.rec (motive_1 := fun n => n.gs.map Prod.fst = n.order) (motive_2 := fun l => (gss l).map Prod.fst = orders l) ?_ ?_ ?_ n
 ·intro i g ks h
  rw [gs, order, List.map_cons, h]
 ·rw [gss, orders]; rfl
 ·intro k ks h1 h2
  rw [gss, orders, List.map_append, h1, h2]
theorem gcount_with {q : Int} (x : Int × Bool) (ks : List Nd) (n : Nd) : ∀ p, Nd.find q n = some p → n.order.Nodup → (Nd.with_ q ks n).gs.count x + (gss p.kids).count x = n.gs.count x + (gss ks).count x := by
 refine Nd.rec (motive_1 := fun n => ∀ p, Nd.find q n = some p → n.order.Nodup → (Nd.with_ q ks n).gs.count x + (gss p.kids).count x = n.gs.count x + (gss ks).count x) (motive_2 := fun l => ∀ p, finds q l = some p → (orders l).Nodup → (gss (withs q ks l)).count x + (gss p.kids).count x = (gss l).count x + (gss ks).count x) ?_ ?_ ?_ n
 ·intro j g ks0 ih p hp ho
  rw [Nd.find] at hp
  rw [Nd.with_, gs, gs, List.count_cons, List.count_cons]
  rw [order, List.nodup_cons] at ho
  by_cases hj : j = q
  ·rw [if_pos hj] at hp; cases hp
   rw [if_pos hj]
   show _ + (gss ks0).count x = _
   omega
  ·rw [if_neg hj] at hp
   rw [if_neg hj]
   have := ih p hp ho.2
   omega
 ·intro p hp; simp [finds] at hp
 ·intro k l h1 h2 p hp ho
  rw [finds] at hp
  rw [orders, List.nodup_append] at ho
  rw [withs, gss, gss, List.count_append, List.count_append]
  cases hk : Nd.find q k with
  | some y =>
   rw [hk] at hp; cases hp
   have hq : q ∈ k.order := (find_some q k).1 (by rw [hk]; rfl)
   have h3 := h1 _ hk ho.1
   rw [withs_none q _ l fun hl => ho.2.2 q hq q hl rfl]
   omega
  | none =>
   rw [hk] at hp
   have hn : q ∉ k.order := fun hm => by
    have := (find_some q k).2 hm
    rw [hk] at this; cases this
   have h3 := h2 _ hp ho.2.1
   rw [with_none q _ k hn]
   omega
theorem gcount_td (x : Int × Bool) (l : List Nd) (k : Nat) : (gss (l.take k)).count x + (gss (l.drop k)).count x = (gss l).count x := by
 rw [← List.count_append, ← gss_app, List.take_append_drop]
theorem gcount_rem (x : Int × Bool) {l : List Nd} {k : Nat} (hk : k < l.length) : (gss (l.take k ++ l.drop (k + 1))).count x + (l[k]).gs.count x = (gss l).count x := by
 have h1 := gcount_td x l k
 rw [drop_eq hk, gss, List.count_append] at h1
 rw [gss_app, List.count_append]; omega
theorem gcount_add {top n : Nd} {p ix : Int} (ho : top.order.Nodup) (h : (Nd.add top p ix n).2 = 0) (x : Int × Bool) : (Nd.add top p ix n).1.gs.count x = top.gs.count x + n.gs.count x := by
 rw [Nd.add] at h ⊢
 split at h
 ·exact absurd h (by show ¬ (31 : Int) = 0; decide)
 ·rename_i m hm
  split at h
  ·exact absurd h (by show ¬ (33 : Int) = 0; decide)
  ·rename_i hg
   rw [if_neg hg]
   split at h
   ·exact absurd h (by show ¬ (30 : Int) = 0; decide)
   ·rename_i hx
    rw [if_neg hx]
    split at h
    ·rename_i hf
     exact absurd h hf
    ·rename_i hf
     rw [if_neg hf]
     have h1 := gcount_with x (m.kids.take ix.toNat ++ n :: m.kids.drop ix.toNat) top m hm ho
     have h2 := gcount_td x m.kids ix.toNat
     rw [gss_app, gss, List.count_append, List.count_append] at h1
     simp only
     omega
end Nd
section
variable {A : Ar} {top : Nd}
open Nd
theorem Abs.gcount_rem (hA : Abs A top) {i : Int} (h : (Nd.remove top i).2.2.2.2 = 0) (x : Int × Bool) : (Nd.remove top i).1.gs.count x + (Nd.remove top i).2.1.gs.count x = top.gs.count x := by
 rcases hA.rem i with ⟨h0, _⟩ | ⟨p, k, hk, _, _, _, _, hf, e, _⟩
 ·exact absurd h h0
 ·rw [e]
  have h1 := gcount_with x (p.kids.take k ++ p.kids.drop (k + 1)) top p hf hA.od
  have h2 := Nd.gcount_rem x hk
  simp only
  omega
theorem Abs.gcount_move (hA : Abs A top) {i p ix : Int} (h : (Nd.move top i p ix).2 = 0) (x : Int × Bool) : (Nd.move top i p ix).1.gs.count x = top.gs.count x := by
 rw [Nd.move] at h ⊢
 split at h
 ·rename_i h0; exact absurd h h0
 ·rename_i h0
  rw [if_neg h0]
  have h0' := Decidable.of_not_not h0
  have hc := hA.count_rem h0'
  have hcg := hA.gcount_rem h0'
  obtain ⟨o1, o2, _⟩ := hA.rem_nodup h0'
  split at h
  ·exact absurd h (by show ¬ (31 : Int) = 0; decide)
  ·rename_i m hm
   split at h
   ·exact absurd h (by show ¬ (33 : Int) = 0; decide)
   ·rename_i hg
    rw [if_neg hg]
    split at h
    ·exact absurd h (by show ¬ (34 : Int) = 0; decide)
    ·rename_i hcy
     rw [if_neg hcy]
     have hp1 := count_find (i := p) (n := top).1 (by rw [hm]; rfl)
     have hp2 : ¬ 0 < (Nd.remove top i).2.1.order.count p := fun hh => hcy (count_find.2 hh)
     have hp3 := hc p
     obtain ⟨m', hm'⟩ := Option.isSome_iff_exists.1 (count_find.2 (show 0 < (Nd.remove top i).1.order.count p by omega))
     rw [hm'] at h ⊢
     simp only [Option.getD_some] at h ⊢
     split at h
     ·exact absurd h (by show ¬ (30 : Int) = 0; decide)
     ·rename_i hix
      rw [if_neg hix]
      split at h
      ·exact absurd h (by show ¬ (35 : Int) = 0; decide)
      ·rename_i hd
       rw [if_neg hd]
       have h1 := gcount_with x (m'.kids.take ix.toNat ++ (Nd.remove top i).2.1 :: m'.kids.drop ix.toNat) (Nd.remove top i).1 m' hm' o1
       have h2 := gcount_td x m'.kids ix.toNat
       rw [gss_app, gss, List.count_append, List.count_append] at h1
       have := hcg x
       simp only
       omega
theorem Nd.gcount_wrap (ho : top.order.Nodup) {i p ix c : Int} (h : (Nd.wrap top i p ix c).2 = 0) (x : Int × Bool) : (Nd.wrap top i p ix c).1.gs.count x = top.gs.count x + (if (i, true) = x then 1 else 0) := by
 rw [Nd.wrap] at h ⊢
 split at h
 ·exact absurd h (by show ¬ (31 : Int) = 0; decide)
 ·rename_i m hm
  split at h
  ·exact absurd h (by show ¬ (33 : Int) = 0; decide)
  ·rename_i hg
   rw [if_neg hg]
   split at h
   ·exact absurd h (by show ¬ (30 : Int) = 0; decide)
   ·rename_i hx
    rw [if_neg hx]
    split at h
    ·rename_i hf
     exact absurd h hf
    ·rename_i hf
     rw [if_neg hf]
     split at h
     ·exact absurd h (by show ¬ (35 : Int) = 0; decide)
     ·rename_i hd
      rw [if_neg hd]
      have h1 := gcount_with x (m.kids.take ix.toNat ++ (mk i true ((m.kids.drop ix.toNat).take c.toNat) :: m.kids.drop (ix.toNat + c.toNat))) top m hm ho
      have h2 := gcount_td x m.kids ix.toNat
      have h3 := gcount_td x (m.kids.drop ix.toNat) c.toNat
      rw [List.drop_drop] at h3
      rw [gss_app, gss, gs, List.count_append, List.count_append, List.count_cons] at h1
      simp only [beq_iff_eq] at h1
      simp only
      omega
theorem Abs.gcount_unwrap (hA : Abs A top) {i : Int} (h : (Nd.unwrap top i).2.2.2.2 = 0) (x : Int × Bool) : (Nd.unwrap top i).1.gs.count x + (if (i, true) = x then 1 else 0) = top.gs.count x := by
 rw [Nd.unwrap] at h ⊢
 split at h
 ·rename_i h0; exact absurd h h0
 ·rename_i h0
  rw [if_neg h0]
  split at h
  ·exact absurd h (by show ¬ (33 : Int) = 0; decide)
  ·rename_i hg
   rw [if_neg hg]
   rcases hA.rem i with ⟨h1, _⟩ | ⟨p, k, hk, _, hid, _, _, hf, e, _⟩
   ·exact absurd (Decidable.of_not_not h0) h1
   ·have hgt : (p.kids[k]).grp = true := by
     rw [e] at hg
     cases hh : (p.kids[k]).grp with
     | true => rfl
     | false => exact absurd hh hg
    rw [e]
    simp only [hf, Option.getD_some, Int.toNat_natCast]
    have h1 := gcount_with x (p.kids.take k ++ ((p.kids[k]).kids ++ p.kids.drop (k + 1))) top p hf hA.od
    have h2 := Nd.gcount_rem x hk
    have h3 : (p.kids[k]).gs.count x = (gss (p.kids[k]).kids).count x + (if (i, true) = x then 1 else 0) := by
     rw [gs_eq, List.count_cons, hid, hgt]
     simp only [beq_iff_eq]
    rw [gss_app, gss_app, List.count_append, List.count_append] at h1
    rw [gss_app, List.count_append] at h2
    omega
end
end Go.Tr

namespace Go.Dc
open Go.Sl Go.Ls Go.Tr
theorem checked_ok {l : List Sg} (h : (checked l).2 = 0) : pathCheck l = 0 ∧ checked l = (l, 0) := by
 rw [checked] at h ⊢
 split at h
 ·rename_i h1; exact absurd h h1
 ·rename_i h1
  exact ⟨Decidable.of_not_not h1, if_neg h1⟩
theorem insert_ok {l : List Sg} {i : Int} {s : Sg} (h : (pathInsert l i s).2 = 0) : 0 ≤ i ∧ i ≤ l.length ∧ pathInsert l i s = (l.take i.toNat ++ s :: l.drop i.toNat, 0) ∧ pathCheck (l.take i.toNat ++ s :: l.drop i.toNat) = 0 := by
 rw [pathInsert] at h ⊢
 split at h
 ·rename_i h1; exact absurd h h1
 ·rename_i h1
  rw [if_neg h1]
  split at h
  ·exact absurd h (by show ¬ (30 : Int) = 0; decide)
  ·rename_i h2
   rw [if_neg h2]
   obtain ⟨h3, h4⟩ := checked_ok h
   exact ⟨by omega, by omega, h4, h3⟩
theorem delete_ok {l : List Sg} {i : Int} (h : (pathDelete l i).2 = 0) : atSeg l i = 0 ∧ pathDelete l i = (l.take i.toNat ++ l.drop (i.toNat + 1), 0) ∧ pathCheck (l.take i.toNat ++ l.drop (i.toNat + 1)) = 0 := by
 rw [pathDelete] at h ⊢
 split at h
 ·rename_i h1; exact absurd h h1
 ·rename_i h1
  rw [if_neg h1]
  obtain ⟨h3, h4⟩ := checked_ok h
  exact ⟨Decidable.of_not_not h1, h4, h3⟩
theorem put_ok {l : List Sg} {i k : Int} {p : Pt} (h : (pathPut l i k p).2 = 0) : atSeg l i = 0 ∧ 0 ≤ k ∧ k < need (sgAt l i).kind ∧ pathPut l i k p = (l.set i.toNat ((sgAt l i).setPoint k.toNat p), 0) ∧ pathCheck (l.set i.toNat ((sgAt l i).setPoint k.toNat p)) = 0 := by
 rw [pathPut] at h ⊢
 split at h
 ·rename_i h1; exact absurd h h1
 ·rename_i h1
  rw [if_neg h1]
  split at h
  ·exact absurd h (by show ¬ (30 : Int) = 0; decide)
  ·rename_i h2
   rw [if_neg h2]
   obtain ⟨h3, h4⟩ := checked_ok h
   exact ⟨Decidable.of_not_not h1, by omega, by omega, h4, h3⟩
theorem split_ok {l : List Sg} {i : Int} (h : (pathSplit l i).2 = 0) : atSeg l i = 0 ∧ (sgAt l i).kind ≠ 1 ∧ (sgAt l i).kind ≠ 5 ∧ l.length ≠ 4096 ∧
  (pathSplit l i).1 = l.take i.toNat ++ ((sgAt l i).parts ((sgAt l (i - 1)).point (need (sgAt l (i - 1)).kind - 1))).1 :: ((sgAt l i).parts ((sgAt l (i - 1)).point (need (sgAt l (i - 1)).kind - 1))).2 :: l.drop (i.toNat + 1) := by
 rw [pathSplit] at h ⊢
 split at h
 ·rename_i h1; exact absurd h h1
 ·rename_i h1
  rw [if_neg h1]
  split at h
  ·exact absurd h (by show ¬ (33 : Int) = 0; decide)
  ·rename_i h2
   rw [if_neg h2]
   split at h
   ·exact absurd h (by show ¬ (36 : Int) = 0; decide)
   ·rename_i h3
    rw [if_neg h3]
    exact ⟨Decidable.of_not_not h1, fun e => h2 (.inl e), fun e => h2 (.inr e), h3, rfl⟩
def openAft (o : Bool) : List Sg → Bool
 | [] => o
 | s :: r => openAft (decide (s.kind ≠ 5)) r
theorem pathGo_app : ∀ (a b : List Sg) (o : Bool), pathGo o (a ++ b) = if pathGo o a ≠ 0 then pathGo o a else pathGo (openAft o a) b
 | [], b, o => by simp [pathGo, openAft]
 | s :: a, b, o => by
  rw [List.cons_append, pathGo, pathGo, openAft]
  by_cases h : s.check o ≠ 0
  ·rw [if_pos h, if_pos h, if_pos h]
  ·rw [if_neg h, if_neg h, pathGo_app a b]
theorem pathGo_app0 {a b : List Sg} {o : Bool} : pathGo o (a ++ b) = 0 ↔ pathGo o a = 0 ∧ pathGo (openAft o a) b = 0 := by
 rw [pathGo_app]
 constructor
 ·intro h
  split at h
  ·rename_i h1; exact absurd h h1
  ·rename_i h1; exact ⟨Decidable.of_not_not h1, h⟩
 ·rintro ⟨h1, h2⟩
  rw [if_neg (fun e => e h1), h2]
theorem pathGo_cons0 {s : Sg} {r : List Sg} {o : Bool} : pathGo o (s :: r) = 0 ↔ s.check o = 0 ∧ pathGo (decide (s.kind ≠ 5)) r = 0 := by
 rw [pathGo]
 constructor
 ·intro h
  split at h
  ·rename_i h1; exact absurd h h1
  ·rename_i h1; exact ⟨Decidable.of_not_not h1, h⟩
 ·rintro ⟨h1, h2⟩
  rw [if_neg (fun e => e h1), h2]
theorem pathCheck_iff {l : List Sg} : pathCheck l = 0 ↔ l.length ≤ 4096 ∧ pathGo false l = 0 := by
 rw [pathCheck]
 constructor
 ·intro h
  split at h
  ·exact absurd h (by decide)
  ·exact ⟨by omega, h⟩
 ·rintro ⟨h1, h2⟩
  rw [if_neg (by omega), h2]
theorem seg_check {s : Sg} (hk : s.kind = 2 ∨ s.kind = 3 ∨ s.kind = 4) : s.check true = 0 ↔ (s.kind = 2 → s.p1 = Pt.z) ∧ (s.kind ≠ 4 → s.p2 = Pt.z) ∧ s.p0.inn ∧ (s.kind ≠ 2 → s.p1.inn) ∧ (s.kind = 4 → s.p2.inn) := by
 obtain ⟨k, p0, p1, p2⟩ := s
 simp only at hk
 rw [Sg.check]
 have e1 : ∀ (P : Prop) [Decidable P] (a b : Int), a ≠ 0 → ((if P then a else b) = 0 ↔ ¬ P ∧ b = 0) := fun P _ a b h => by
  constructor
  ·intro e
   split at e
   ·exact absurd e h
   ·rename_i q; exact ⟨q, e⟩
  ·rintro ⟨q, e⟩
   rw [if_neg q, e]
 rw [e1 _ _ _ (by decide), e1 _ _ _ (by decide), e1 _ _ _ (by decide)]
 rcases hk with rfl | rfl | rfl
 all_goals simp [need, not_or]
 all_goals first | done | constructor
 all_goals first | done | (intro h; simp_all) | skip
theorem parts_check {f : Pt} {x : Sg} (hx : x.check true = 0) (hf : f.inn) (hk : x.kind = 2 ∨ x.kind = 3 ∨ x.kind = 4) : (x.parts f).1.check true = 0 ∧ (x.parts f).2.check true = 0 ∧ (x.parts f).1.kind = x.kind ∧ (x.parts f).2.kind = x.kind := by
 have n24 : ¬ (2 : Int) = 4 := by decide
 have n32 : ¬ (3 : Int) = 2 := by decide
 have n34 : ¬ (3 : Int) = 4 := by decide
 have n42 : ¬ (4 : Int) = 2 := by decide
 have n43 : ¬ (4 : Int) = 3 := by decide
 obtain ⟨k, p0, p1, p2⟩ := x
 have h := (seg_check hk).1 hx
 obtain ⟨h1, h2, h3, h4, h5⟩ := h
 simp only at hk h1 h2 h3 h4 h5
 rw [Sg.parts]
 rcases hk with rfl | rfl | rfl
 ·rw [if_pos rfl]
  refine ⟨(seg_check (.inl rfl)).2 ⟨h1, h2, mid_inn hf h3, fun e => absurd rfl e, fun e => absurd e n24⟩, hx, rfl, rfl⟩
 ·have h4 := h4 (by decide)
  rw [if_neg n32, if_pos rfl]
  exact ⟨(seg_check (.inr (.inl rfl))).2 ⟨fun e => absurd e n32, h2, mid_inn hf h3, fun _ => mid_inn (mid_inn hf h3) (mid_inn h3 h4), fun e => absurd e n34⟩,
   (seg_check (.inr (.inl rfl))).2 ⟨fun e => absurd e n32, h2, mid_inn h3 h4, fun _ => h4, fun e => absurd e n34⟩, rfl, rfl⟩
 ·have h4 := h4 (by decide)
  have h5 := h5 rfl
  rw [if_neg n42, if_neg n43]
  exact ⟨(seg_check (.inr (.inr rfl))).2 ⟨fun e => absurd e n42, fun e => absurd rfl e, mid_inn hf h3, fun _ => mid_inn (mid_inn hf h3) (mid_inn h3 h4), fun _ => mid_inn (mid_inn (mid_inn hf h3) (mid_inn h3 h4)) (mid_inn (mid_inn h3 h4) (mid_inn h4 h5))⟩,
   (seg_check (.inr (.inr rfl))).2 ⟨fun e => absurd e n42, fun e => absurd rfl e, mid_inn (mid_inn h3 h4) (mid_inn h4 h5), fun _ => mid_inn h4 h5, fun _ => h5⟩, rfl, rfl⟩
theorem split_right {l : List Sg} {i : Int} (h : (pathSplit l i).2 = 0) : pathCheck (pathSplit l i).1 = 0 := by
 obtain ⟨h1, h2, h3, h4, h5⟩ := split_ok h
 obtain ⟨c0, i0, il, l4⟩ := atSeg_ok h1
 obtain ⟨j, rfl⟩ : ∃ j : Nat, i = j := ⟨i.toNat, by omega⟩
 have hj : j < l.length := by omega
 rw [sgAt_nat hj] at h2 h3 h5
 obtain ⟨j0, f1, f2, f3, _⟩ := split_facts c0 hj h2 h3
 have hjm : ((j : Int) - 1) = ((j - 1 : Nat) : Int) := by omega
 rw [hjm, sgAt_nat (by omega)] at h5
 rw [h5]
 simp only [Int.toNat_natCast]
 obtain ⟨cl, cg⟩ := pathCheck_iff.1 c0
 have hsp : l = l.take j ++ l[j] :: l.drop (j + 1) := by rw [← List.drop_eq_getElem_cons hj, List.take_append_drop]
 rw [hsp] at cg
 obtain ⟨g1, g2⟩ := pathGo_app0.1 cg
 obtain ⟨g3, g4⟩ := pathGo_cons0.1 g2
 have ho := (seg_facts g3).2.2.1 h2
 rw [ho] at g3
 obtain ⟨p1, p2, p3, p4⟩ := parts_check g3 f2 f3
 have hk5 : ∀ {y : Sg}, y.kind = (l[j]).kind → decide (y.kind ≠ 5) = true := fun e => decide_eq_true (by rw [e]; exact h3)
 refine pathCheck_iff.2 ⟨?_, pathGo_app0.2 ⟨g1, pathGo_cons0.2 ⟨by rw [ho]; exact p1, pathGo_cons0.2 ⟨by rw [hk5 p3]; exact p2, ?_⟩⟩⟩⟩
 ·simp only [List.length_append, List.length_cons, List.length_take, List.length_drop]; omega
 ·rw [p4]; exact g4
theorem Atr.check_iff {a : Atr} {g : Bool} : a.check g = 0 ↔ a.mtx.right ∧ a.sty.check = 0 ∧ pathCheck a.path = 0 ∧ (g = true → a.path.length = 0) := by
 constructor
 ·intro h
  obtain ⟨h1, h2, h3⟩ := Atr.check_ok h
  refine ⟨h1, h2, h3, fun e => ?_⟩
  rw [Atr.check, if_neg (fun e => e h1), if_neg (fun e => e h2), if_neg (fun e => e h3)] at h
  split at h
  ·exact absurd h (by decide)
  ·rename_i h4
   rcases Nat.eq_zero_or_pos a.path.length with h5 | h5
   ·exact h5
   ·exact absurd ⟨e, h5⟩ h4
 ·rintro ⟨h1, h2, h3, h4⟩
  rw [Atr.check, if_neg (fun e => e h1), if_neg (fun e => e h2), if_neg (fun e => e h3), if_neg]
  rintro ⟨e, h5⟩
  have := h4 e
  omega
theorem change_right {a : Atr} {c : Cm} {g : Bool} (ha : a.check g = 0) (hg : 8 ≤ c.kind → g = false) (h : (change a c).2.2 = 0) (h6 : 6 ≤ c.kind) : (change a c).1.check g = 0 := by
 obtain ⟨h1, h2, h3, h4⟩ := Atr.check_iff.1 ha
 rw [change] at h ⊢
 by_cases k : c.kind = 6
 ·rw [if_pos k] at h ⊢
  have hm : c.atr.mtx.right := by
   simp only at h
   split at h
   ·assumption
   ·exact absurd h (by decide)
  exact Atr.check_iff.2 ⟨hm, h2, h3, h4⟩
 rw [if_neg k] at h ⊢
 by_cases k : c.kind = 7
 ·rw [if_pos k] at h ⊢
  exact Atr.check_iff.2 ⟨h1, h, h3, h4⟩
 rw [if_neg k] at h ⊢
 have hg := hg (by omega)
 subst hg
 by_cases k : c.kind = 8
 ·rw [if_pos k] at h ⊢
  exact Atr.check_iff.2 ⟨h1, h2, h, fun e => by cases e⟩
 rw [if_neg k] at h ⊢
 by_cases k : c.kind = 9
 ·rw [if_pos k] at h ⊢
  obtain ⟨_, _, e, hp⟩ := insert_ok h
  refine Atr.check_iff.2 ⟨h1, h2, ?_, fun e => by cases e⟩
  show pathCheck (pathInsert a.path c.i c.seg).1 = 0
  rw [e]; exact hp
 rw [if_neg k] at h ⊢
 by_cases k : c.kind = 10
 ·rw [if_pos k] at h ⊢
  obtain ⟨_, e, hp⟩ := delete_ok h
  refine Atr.check_iff.2 ⟨h1, h2, ?_, fun e => by cases e⟩
  show pathCheck (pathDelete a.path c.i).1 = 0
  rw [e]; exact hp
 rw [if_neg k] at h ⊢
 by_cases k : c.kind = 11
 ·rw [if_pos k] at h ⊢
  obtain ⟨_, _, _, e, hp⟩ := put_ok h
  refine Atr.check_iff.2 ⟨h1, h2, ?_, fun e => by cases e⟩
  show pathCheck (pathPut a.path c.i c.k c.point).1 = 0
  rw [e]; exact hp
 rw [if_neg k] at h ⊢
 exact Atr.check_iff.2 ⟨h1, h2, split_right h, fun e => by cases e⟩
end Go.Dc

namespace Go.Dc
open Go.Sl Go.Ls Go.Tr
def tot (h : Int → Int) : List (Int × Bool) → Int
 | [] => 0
 | p :: l => h p.1 + tot h l
theorem tot_app (h : Int → Int) : ∀ (a b : List (Int × Bool)), tot h (a ++ b) = tot h a + tot h b
 | [], b => by rw [tot]; simp
 | p :: a, b => by rw [List.cons_append, tot, tot, tot_app h a b]; omega
theorem tot_perm (h : Int → Int) {a b : List (Int × Bool)} (hp : a.Perm b) : tot h a = tot h b := by
 induction hp with
 | nil => rfl
 | cons x _ ih => rw [tot, tot, ih]
 | swap x y l => rw [tot, tot, tot, tot]; omega
 | trans _ _ h1 h2 => rw [h1, h2]
theorem tot_congr {h g : Int → Int} : ∀ {l : List (Int × Bool)}, (∀ p ∈ l, h p.1 = g p.1) → tot h l = tot g l
 | [], _ => rfl
 | p :: l, hh => by rw [tot, tot, hh p (.head _), tot_congr fun q hq => hh q (.tail _ hq)]
theorem tot_nonneg {h : Int → Int} : ∀ {l : List (Int × Bool)}, (∀ p ∈ l, 0 ≤ h p.1) → 0 ≤ tot h l
 | [], _ => Int.le_refl _
 | p :: l, hh => by
  rw [tot]
  have := hh p (.head _)
  have := tot_nonneg fun q hq => hh q (List.mem_cons_of_mem p hq)
  omega
theorem tot_up {h : Int → Int} {i v : Int} : ∀ {l : List (Int × Bool)}, (l.map Prod.fst).Nodup → i ∈ l.map Prod.fst → tot (fun k => if k = i then v else h k) l = tot h l + v - h i
 | [], _, hi => by cases hi
 | p :: l, hn, hi => by
  rw [List.map_cons, List.nodup_cons] at hn
  rw [tot, tot]
  by_cases hp : p.1 = i
  ·have : tot (fun k => if k = i then v else h k) l = tot h l := tot_congr fun q hq => if_neg fun e => hn.1 (by rw [hp, ← e]; exact List.mem_map_of_mem hq)
   rw [this, if_pos hp, hp]
   omega
  ·rw [if_neg hp, tot_up hn.2 ((List.mem_cons.1 hi).resolve_left fun e => hp e.symm)]
   omega
def Dr.len (d : Dr) (i : Int) : Int := ((d.at_ i).getD Atr.z).path.length
theorem Dr.len_nn (d : Dr) (i : Int) : 0 ≤ d.len i := Int.natCast_nonneg _
theorem len_of {d d' : Dr} {i : Int} (h : d'.at_ i = d.at_ i) : d'.len i = d.len i := by rw [Dr.len, Dr.len, h]
theorem get_of {d d' : Dr} {i : Int} (h : d'.at_ i = d.at_ i) : d'.get i = d.get i := by rw [Dr.get, Dr.get, h]
structure DInv (d : Dr) : Prop where
 seg : d.segs = tot d.len d.top.gs
 right : ∀ p ∈ d.top.gs, p.1 ≠ 0 → (d.get p.1).check p.2 = 0
 most : d.segs ≤ mostSegs
theorem DInv.nonneg {d : Dr} (h : DInv d) : 0 ≤ d.segs := by rw [h.seg]; exact tot_nonneg fun p _ => d.len_nn p.1
theorem perm_gs {a b c : List (Int × Bool)} (h : ∀ x, a.count x = b.count x + c.count x) : a.Perm (b ++ c) := by
 rw [List.perm_iff_count]
 intro x
 rw [List.count_append, h x]
theorem perm_gs0 {a b : List (Int × Bool)} (h : ∀ x, a.count x = b.count x) : a.Perm b := List.perm_iff_count.2 h
theorem segsOf_ents (at_ : Int → Atr) (n : Nd) : segsOf (ents at_ n) = tot (fun i => ((at_ i).path.length : Int)) n.gs := by
 refine Nd.rec (motive_1 := fun n => segsOf (ents at_ n) = tot (fun i => ((at_ i).path.length : Int)) n.gs) (motive_2 := fun l => segsOf (entss at_ l) = tot (fun i => ((at_ i).path.length : Int)) (Nd.gss l)) ?_ ?_ ?_ n
 ·intro i g ks h
  rw [ents, Nd.gs, tot, ← h]; rfl
 ·rw [entss, Nd.gss]; rfl
 ·intro k ks h1 h2
  rw [entss, Nd.gss, tot_app, ← h1, ← h2]
  have : ∀ a b : List Ent, segsOf (a ++ b) = segsOf a + segsOf b := by
   intro a b
   induction a with
   | nil => show segsOf b = 0 + segsOf b; omega
   | cons x a ih => show (x.atr.path.length : Int) + segsOf (a ++ b) = (x.atr.path.length : Int) + segsOf a + segsOf b; omega
  exact this _ _
theorem tk_gs : ∀ (f : Nat), (∀ (l : List Ent) n r, tk f l = some (n, r) → l.map (fun x => (x.id, x.grp)) = n.gs ++ r.map (fun x => (x.id, x.grp))) ∧ ∀ (k : Nat) (l : List Ent) ns r, tks f k l = some (ns, r) → l.map (fun x => (x.id, x.grp)) = Nd.gss ns ++ r.map (fun x => (x.id, x.grp)) := by
 intro f
 induction f with
 | zero =>
  refine ⟨fun l n r h => ?_, fun k l ns r h => ?_⟩
  ·rw [tk] at h; cases h
  ·cases k with
   | zero => rw [tks] at h; cases h; rw [Nd.gss]; rfl
   | succ k => rw [tks] at h; cases h
 | succ f ih =>
  refine ⟨fun l n r h => ?_, fun k l ns r h => ?_⟩
  ·cases l with
   | nil => rw [tk] at h; cases h
   | cons x l =>
    rw [tk] at h
    split at h
    ·cases h
    ·split at h
     ·cases h
     ·rename_i ks rest he
      cases h
      rw [List.map_cons, ih.2 _ _ _ _ he, Nd.gs]; rfl
  ·cases k with
   | zero => rw [tks] at h; cases h; rw [Nd.gss]; rfl
   | succ k =>
    rw [tks] at h
    split at h
    ·cases h
    ·rename_i n r1 he
     split at h
     ·cases h
     ·rename_i ns' r2 he2
      cases h
      rw [ih.1 _ _ _ he, ih.2 _ _ _ _ he2, Nd.gss, List.append_assoc]
theorem Tk_gs {l : List Ent} {n : Nd} (h : Tk l = some (n, [])) : l.map (fun x => (x.id, x.grp)) = n.gs := by
 have := (tk_gs _).1 _ _ _ h
 simpa using this
theorem putAll_ne : ∀ {l : List Ent} {f : Int → Option Atr} {i : Int}, i ∉ l.map Ent.id → putAll f l i = f i
 | [], f, i, _ => rfl
 | x :: l, f, i, h => by
  rw [List.map_cons, List.mem_cons, not_or] at h
  rw [putAll, putAll_ne h.2, upAt, if_neg h.1]
theorem putAll_at : ∀ {l : List Ent} {f : Int → Option Atr} {x : Ent}, (l.map Ent.id).Nodup → x ∈ l → putAll f l x.id = some x.atr
 | [], _, _, _, h => by cases h
 | y :: l, f, x, hn, hx => by
  rw [List.map_cons, List.nodup_cons] at hn
  rw [putAll]
  rcases List.mem_cons.1 hx with rfl | hx
  ·rw [putAll_ne hn.1, upAt, if_pos rfl]
  ·exact putAll_at hn.2 hx
theorem dropAll_ne : ∀ {l : List Ent} {f : Int → Option Atr} {i : Int}, i ∉ l.map Ent.id → dropAll f l i = f i
 | [], f, i, _ => rfl
 | x :: l, f, i, h => by
  rw [List.map_cons, List.mem_cons, not_or] at h
  rw [dropAll, dropAll_ne h.2, downAt, if_neg h.1]
theorem gs_id {n : Nd} {p : Int × Bool} (h : p ∈ n.gs) : p.1 ∈ n.order := by rw [← Nd.order_gs]; exact List.mem_map_of_mem h
theorem find_gs {n : Nd} (p : Int × Bool) : n.order.Nodup → p ∈ n.gs → ∃ m, Nd.find p.1 n = some m ∧ m.grp = p.2 := by
 refine Nd.rec (motive_1 := fun n => n.order.Nodup → p ∈ n.gs → ∃ m, Nd.find p.1 n = some m ∧ m.grp = p.2) (motive_2 := fun l => (Nd.orders l).Nodup → p ∈ Nd.gss l → ∃ m, Nd.finds p.1 l = some m ∧ m.grp = p.2) ?_ ?_ ?_ n
 ·intro i g ks ih ho hp
  rw [Nd.order, List.nodup_cons] at ho
  rw [Nd.gs] at hp
  rw [Nd.find]
  rcases List.mem_cons.1 hp with rfl | hp
  ·exact ⟨_, if_pos rfl, rfl⟩
  ·have hm : p.1 ∈ Nd.orders ks := by
    have := gs_id (n := .mk i g ks) (p := p) (by rw [Nd.gs]; exact List.mem_cons_of_mem _ hp)
    rw [Nd.order] at this
    rcases List.mem_cons.1 this with e | e
    ·exfalso
     have h2 : ∀ (l : List Nd), p ∈ Nd.gss l → p.1 ∈ Nd.orders l := by
      intro l
      induction l with
      | nil => intro h; rw [Nd.gss] at h; cases h
      | cons k l ih2 =>
       intro h
       rw [Nd.gss] at h
       rw [Nd.orders]
       rcases List.mem_append.1 h with h | h
       ·exact List.mem_append.2 (.inl (gs_id h))
       ·exact List.mem_append.2 (.inr (ih2 h))
     exact ho.1 (by rw [← e]; exact h2 ks hp)
    ·exact e
   rw [if_neg fun e => ho.1 (by rw [e]; exact hm)]
   exact ih ho.2 hp
 ·intro _ hp; rw [Nd.gss] at hp; cases hp
 ·intro k l h1 h2 ho hp
  rw [Nd.orders, List.nodup_append] at ho
  rw [Nd.gss] at hp
  rw [Nd.finds]
  rcases List.mem_append.1 hp with hp | hp
  ·obtain ⟨m, hm, hg⟩ := h1 ho.1 hp
   rw [hm]; exact ⟨m, rfl, hg⟩
  ·obtain ⟨m, hm, hg⟩ := h2 ho.2.1 hp
   cases hk : Nd.find p.1 k with
   | some y =>
    exfalso
    have hq : p.1 ∈ k.order := (Nd.find_some p.1 k).1 (by rw [hk]; rfl)
    have hl : p.1 ∈ Nd.orders l := by
     have h2 : ∀ (l : List Nd), p ∈ Nd.gss l → p.1 ∈ Nd.orders l := by
      intro l
      induction l with
      | nil => intro h; rw [Nd.gss] at h; cases h
      | cons k l ih2 =>
       intro h
       rw [Nd.gss] at h
       rw [Nd.orders]
       rcases List.mem_append.1 h with h | h
       ·exact List.mem_append.2 (.inl (gs_id h))
       ·exact List.mem_append.2 (.inr (ih2 h))
     exact h2 l hp
    exact ho.2.2 _ hq _ hl rfl
   | none => exact ⟨m, hm, hg⟩
theorem firstWrong_all : ∀ {l : List Ent}, firstWrong l = 0 → ∀ x ∈ l, x.atr.check x.grp = 0
 | [], _, _, h => by cases h
 | y :: l, h, x, hx => by
  rw [firstWrong] at h
  split at h
  ·rename_i h1; exact absurd h h1
  ·rename_i h1
   rcases List.mem_cons.1 hx with rfl | hx
   ·exact Decidable.of_not_not h1
   ·exact firstWrong_all h x hx
theorem check_grp {a : Atr} (h : a.check true = 0) : a.path.length = 0 := by
 rw [Atr.check] at h
 split at h
 ·exact absurd h (by decide)
 rename_i h1
 split at h
 ·rename_i h2; exact absurd h h2
 rename_i h2
 split at h
 ·rename_i h3; exact absurd h h3
 split at h
 ·exact absurd h (by decide)
 ·rename_i h4
  have : ¬ 0 < a.path.length := fun e => h4 ⟨rfl, e⟩
  omega
theorem DInv.grp {d : Dr} (h : DInv d) (h0 : d.at_ 0 = none) {p : Int × Bool} (hp : p ∈ d.top.gs) (hg : p.2 = true) : d.len p.1 = 0 := by
 by_cases e : p.1 = 0
 ·rw [e, Dr.len, h0]; rfl
 ·have := h.right p hp e
  rw [hg] at this
  have := check_grp this
  show ((d.get p.1).path.length : Int) = 0
  rw [this]; rfl
section
variable {A B : Ar} {d : Dr} {c : Cm}
theorem inv_add (hi : DInv d) (hA : Abs A d.top) (hB : Abs B (d.add c).1.top) : DInv (d.add c).1 := by
 rw [Dr.add] at hB ⊢
 split at hB
 ·rename_i h; rw [if_pos h]; exact hi
 rename_i hw; rw [if_neg hw]
 split at hB
 ·rename_i h; rw [if_pos h]; exact hi
 rename_i hf; rw [if_neg hf]
 split at hB
 ·rename_i h; rw [if_pos h]; exact hi
 rename_i hm; rw [if_neg hm]
 split at hB
 ·rename_i h; rw [if_pos h]; exact hi
 rename_i he; rw [if_neg he]
 have he := Decidable.of_not_not he
 have hf := firstWrong_all (Decidable.of_not_not hf)
 obtain ⟨n, hn⟩ := (Whole_iff _).1 (Decidable.of_not_not hw)
 have hno := nodeOf_eq hn
 have hids := Tk_order hn
 have hgs := Tk_gs hn
 rw [hno] at hB he ⊢
 simp only [List.map_nil, List.append_nil] at hids
 have hc := Nd.gcount_add hA.od he
 have hco := Nd.count_add hA.od he
 have hod := hB.od
 simp only at hB hod ⊢
 generalize (Nd.add d.top c.parent c.index n).1 = top' at *
 have hperm := perm_gs hc
 have hpo : top'.order.Perm (d.top.order ++ n.order) := by
  rw [List.perm_iff_count]; intro x; rw [List.count_append, hco x]
 have hnd := (hpo.nodup_iff).1 hod
 rw [List.nodup_append] at hnd
 have hids2 : (c.ents.map Ent.id).Nodup := by rw [hids]; exact hnd.2.1
 have hold : ∀ p ∈ d.top.gs, Dr.at_ ⟨top', putAll d.at_ c.ents, d.segs + segsOf c.ents⟩ p.1 = d.at_ p.1 := fun p hp => putAll_ne (by rw [hids]; exact fun h => hnd.2.2 _ (gs_id hp) _ h rfl)
 have hnew : ∀ x ∈ c.ents, Dr.at_ ⟨top', putAll d.at_ c.ents, d.segs + segsOf c.ents⟩ x.id = some x.atr := fun x hx => putAll_at hids2 hx
 generalize hd' : (⟨top', putAll d.at_ c.ents, d.segs + segsOf c.ents⟩ : Dr) = d' at *
 have ht : d'.top = top' := by rw [← hd']
 have hs : d'.segs = d.segs + segsOf c.ents := by rw [← hd']
 have hlenN : ∀ x ∈ c.ents, d'.len x.id = x.atr.path.length := fun x hx => by rw [Dr.len, hnew x hx]; rfl
 refine ⟨?_, fun p hp hp0 => ?_, by rw [hs]; omega⟩
 ·rw [hs, ht, tot_perm _ hperm, tot_app, tot_congr fun p hp => len_of (hold p hp), ← hi.seg, ← hgs]
  congr 1
  have : ∀ l : List Ent, (∀ x ∈ l, d'.len x.id = x.atr.path.length) → segsOf l = tot d'.len (l.map fun x => (x.id, x.grp)) := by
   intro l
   induction l with
   | nil => intro _; rfl
   | cons x l ih =>
    intro h
    rw [List.map_cons, tot, ← ih fun y hy => h y (List.mem_cons_of_mem _ hy)]
    simp only [h x (.head _)]
    rfl
  exact this _ hlenN
 ·rw [ht] at hp
  rcases List.mem_append.1 (hperm.mem_iff.1 hp) with hp | hp
  ·rw [get_of (hold p hp)]; exact hi.right p hp hp0
  ·rw [← hgs] at hp
   obtain ⟨x, hx, rfl⟩ := List.mem_map.1 hp
   simp only
   rw [Dr.get, hnew x hx]
   exact hf x hx
theorem inv_remove (hi : DInv d) (hA : Abs A d.top) : DInv (d.remove c).1 := by
 rw [Dr.remove]
 simp only
 split
 ·exact hi
 ·rename_i h0
  have h0 := Decidable.of_not_not h0
  have hg := hA.gcount_rem h0
  obtain ⟨o1, o2, o3, o4, o5⟩ := hA.rem_nodup h0
  have hp := perm_gs (fun x => (hg x).symm)
  have hids := ents_ids d.get (Nd.remove d.top c.id).2.1
  have hs := segsOf_ents d.get (Nd.remove d.top c.id).2.1
  have hnn := segsOf_nonneg (ents d.get (Nd.remove d.top c.id).2.1)
  generalize (Nd.remove d.top c.id).1 = t1 at *
  generalize (Nd.remove d.top c.id).2.1 = n at *
  have hl : ∀ p ∈ t1.gs, Dr.at_ ⟨t1, dropAll d.at_ (ents d.get n), d.segs - segsOf (ents d.get n)⟩ p.1 = d.at_ p.1 := fun p hp =>
   dropAll_ne (show p.1 ∉ (ents d.get n).map Ent.id by rw [hids]; exact o3 _ (gs_id hp))
  refine ⟨?_, fun p hp2 hp0 => ?_, ?_⟩
  ·show d.segs - segsOf _ = tot _ t1.gs
   have h3 : segsOf (ents d.get n) = tot d.len n.gs := hs
   rw [tot_congr fun p hp => len_of (hl p hp), hi.seg, tot_perm _ hp, tot_app, h3]
   omega
  ·rw [get_of (hl p hp2)]; exact hi.right p (hp.mem_iff.2 (List.mem_append.2 (.inl hp2))) hp0
  ·have := hi.most
   show d.segs - segsOf _ ≤ _
   omega
theorem inv_move (hi : DInv d) (hA : Abs A d.top) : DInv (d.move c).1 := by
 rw [Dr.move]
 simp only
 split
 ·exact hi
 ·rename_i h0
  have hp := perm_gs0 (hA.gcount_move (Decidable.of_not_not h0))
  refine ⟨?_, fun p hp2 hp0 => hi.right p (hp.mem_iff.1 hp2) hp0, hi.most⟩
  show d.segs = tot _ _
  rw [tot_perm _ hp]; exact hi.seg
theorem inv_wrap (hi : DInv d) (hA : Abs A d.top) (hB : Abs B (d.wrap c).1.top) : DInv (d.wrap c).1 := by
 rw [Dr.wrap] at hB ⊢
 split at hB
 ·rename_i h; rw [if_pos h]; exact hi
 rename_i hc; rw [if_neg hc]
 have hc := Decidable.of_not_not hc
 simp only at hB ⊢
 split at hB
 ·rename_i h; rw [if_pos h]; exact hi
 rename_i h0; rw [if_neg h0]
 have h0 := Decidable.of_not_not h0
 have hg := Nd.gcount_wrap hA.od h0
 have hod := hB.od
 have hcn := Nd.count_wrap hA.od h0
 simp only at hod ⊢
 generalize (Nd.wrap d.top c.id c.parent c.index c.count).1 = t1 at *
 have hp : t1.gs.Perm ((c.id, true) :: d.top.gs) := List.perm_iff_count.2 fun x => by rw [List.count_cons, hg x]; simp only [beq_iff_eq]
 have hni : c.id ∉ d.top.order := fun h => by
  have h1 := hcn c.id
  rw [if_pos rfl] at h1
  have h2 := nodup_count hod c.id
  have h3 := mem_count.1 h
  omega
 have hl : ∀ p ∈ d.top.gs, Dr.at_ ⟨t1, upAt d.at_ c.id c.atr, d.segs⟩ p.1 = d.at_ p.1 := fun p hp =>
  if_neg (show ¬ p.1 = c.id from fun e => hni (by rw [← e]; exact gs_id hp))
 have h1 : Dr.at_ ⟨t1, upAt d.at_ c.id c.atr, d.segs⟩ c.id = some c.atr := if_pos rfl
 have h2 : Dr.len ⟨t1, upAt d.at_ c.id c.atr, d.segs⟩ c.id = 0 := by
  rw [Dr.len, h1, Option.getD_some, check_grp hc]; rfl
 refine ⟨?_, fun p hp2 hp0 => ?_, hi.most⟩
 ·show d.segs = _
  rw [tot_perm _ hp, tot, tot_congr fun p hp => len_of (hl p hp), ← hi.seg]
  simp only [h2]
  omega
 ·rcases List.mem_cons.1 (hp.mem_iff.1 hp2) with rfl | hp2
  ·simp only
   rw [Dr.get, h1]; exact hc
  ·rw [get_of (hl p hp2)]; exact hi.right p hp2 hp0
theorem inv_unwrap (hi : DInv d) (hA : Abs A d.top) (h00 : d.at_ 0 = none) : DInv (d.unwrap c).1 := by
 rw [Dr.unwrap]
 simp only
 split
 ·exact hi
 ·rename_i h0
  have h0 := Decidable.of_not_not h0
  have hg := hA.gcount_unwrap h0
  have hcn := hA.count_unwrap h0
  generalize (Nd.unwrap d.top c.id).1 = t1 at *
  have hp : d.top.gs.Perm ((c.id, true) :: t1.gs) := List.perm_iff_count.2 fun x => by rw [List.count_cons, ← hg x]; simp only [beq_iff_eq]
  have hni : c.id ∉ t1.order := fun h => by
   have h1 := hcn c.id
   rw [if_pos rfl] at h1
   have h2 := nodup_count hA.od c.id
   have h3 := mem_count.1 h
   omega
  have hl : ∀ p ∈ t1.gs, Dr.at_ ⟨t1, downAt d.at_ c.id, d.segs⟩ p.1 = d.at_ p.1 := fun p hp =>
   if_neg (show ¬ p.1 = c.id from fun e => hni (by rw [← e]; exact gs_id hp))
  have h1 : d.len c.id = 0 := hi.grp h00 (p := (c.id, true)) (hp.mem_iff.2 (.head _)) rfl
  refine ⟨?_, fun p hp2 hp0 => ?_, hi.most⟩
  ·show d.segs = _
   rw [tot_congr fun p hp => len_of (hl p hp), hi.seg, tot_perm _ hp, tot, h1]
   omega
  ·rw [get_of (hl p hp2)]; exact hi.right p (hp.mem_iff.2 (.tail _ hp2)) hp0
theorem inv_set (hi : DInv d) (hA : Abs A d.top) (hdom : ∀ i, (d.at_ i).isSome = true ↔ i ≠ 0 ∧ i ∈ d.top.order) (h6 : 6 ≤ c.kind) : DInv (d.set c).1 := by
 rw [Dr.set]
 split
 ·exact hi
 rename_i h0
 split
 ·exact hi
 rename_i a ha
 split
 ·exact hi
 rename_i hk
 split
 ·exact hi
 rename_i hc
 split
 ·exact hi
 rename_i hm
 have hin := ((hdom c.id).1 (by rw [ha]; rfl)).2
 have hda : d.len c.id = a.path.length := by rw [Dr.len, ha]; rfl
 have hga : d.get c.id = a := by rw [Dr.get, ha]; rfl
 have hn : (d.top.gs.map Prod.fst).Nodup := by rw [Nd.order_gs]; exact hA.od
 have hlen : Dr.len ⟨d.top, upAt d.at_ c.id (change a c).1, d.segs + (change a c).1.path.length - a.path.length⟩ = fun k => if k = c.id then ((change a c).1.path.length : Int) else d.len k := by
  funext k
  rw [Dr.len, Dr.len]
  simp only [upAt]
  split <;> rfl
 refine ⟨?_, fun p hp hp0 => ?_, by show d.segs + _ - _ ≤ _; omega⟩
 ·show d.segs + _ - _ = tot _ d.top.gs
  rw [hlen, tot_up hn (by rw [Nd.order_gs]; exact hin), ← hi.seg, hda]
 ·have hr := hi.right p hp hp0
  by_cases e : p.1 = c.id
  ·rw [e, hga] at hr
   have h1 : Dr.get ⟨d.top, upAt d.at_ c.id (change a c).1, d.segs + (change a c).1.path.length - a.path.length⟩ p.1 = (change a c).1 := by
    rw [Dr.get]; simp only [upAt, if_pos e]; rfl
   rw [h1]
   refine change_right hr (fun h8 => ?_) (Decidable.of_not_not hc) h6
   cases hg : p.2 with
   | false => rfl
   | true =>
    exact absurd ⟨h8, by
     obtain ⟨m, hm, hmg⟩ := find_gs p hA.od hp
     rw [← e, hm]
     show m.grp = true
     rw [hmg, hg]⟩ hk
  ·rw [get_of (d := d) (show upAt d.at_ c.id (change a c).1 p.1 = d.at_ p.1 from if_neg e)]
   exact hr
theorem inv_apply (hi : DInv d) (hA : Abs A d.top) (hdom : ∀ i, (d.at_ i).isSome = true ↔ i ≠ 0 ∧ i ∈ d.top.order) (hB : Abs B (d.apply c).1.top) : DInv (d.apply c).1 := by
 rw [Dr.apply] at hB ⊢
 by_cases k1 : c.kind = 1
 ·rw [if_pos k1] at hB ⊢; exact inv_add hi hA hB
 rw [if_neg k1] at hB ⊢
 by_cases k2 : c.kind = 2
 ·rw [if_pos k2]; exact inv_remove hi hA
 rw [if_neg k2] at hB ⊢
 by_cases k3 : c.kind = 3
 ·rw [if_pos k3]; exact inv_move hi hA
 rw [if_neg k3] at hB ⊢
 by_cases k4 : c.kind = 4
 ·rw [if_pos k4] at hB ⊢; exact inv_wrap hi hA hB
 rw [if_neg k4] at hB ⊢
 by_cases k5 : c.kind = 5
 ·rw [if_pos k5]
  exact inv_unwrap hi hA (by
   cases h : d.at_ 0 with
   | none => rfl
   | some a => exact absurd rfl ((hdom 0).1 (by rw [h]; rfl)).1)
 rw [if_neg k5] at hB ⊢
 by_cases k6 : 6 ≤ c.kind ∧ c.kind ≤ 12
 ·rw [if_pos k6]; exact inv_set hi hA hdom k6.1
 ·rw [if_neg k6]; exact hi
theorem set_top : (d.set c).1.top = d.top := by
 rw [Dr.set]
 repeat' split
 all_goals rfl
theorem apply_step : Nd.Step1 d.top (d.apply c).1.top := by
 rw [Dr.apply]
 by_cases k1 : c.kind = 1
 ·rw [if_pos k1, Dr.add]
  repeat' split
  all_goals first | exact .inl rfl | exact .inr (.inl ⟨_, _, _, rfl⟩)
 rw [if_neg k1]
 by_cases k2 : c.kind = 2
 ·rw [if_pos k2, Dr.remove]
  simp only
  split
  ·exact .inl rfl
  ·exact .inr (.inr (.inl ⟨_, rfl⟩))
 rw [if_neg k2]
 by_cases k3 : c.kind = 3
 ·rw [if_pos k3, Dr.move]
  simp only
  split
  ·exact .inl rfl
  ·exact .inr (.inr (.inr (.inl ⟨_, _, _, rfl⟩)))
 rw [if_neg k3]
 by_cases k4 : c.kind = 4
 ·rw [if_pos k4, Dr.wrap]
  simp only
  repeat' split
  all_goals first | exact .inl rfl | exact .inr (.inr (.inr (.inr (.inl ⟨_, _, _, _, rfl⟩))))
 rw [if_neg k4]
 by_cases k5 : c.kind = 5
 ·rw [if_pos k5, Dr.unwrap]
  simp only
  split
  ·exact .inl rfl
  ·exact .inr (.inr (.inr (.inr (.inr ⟨_, rfl⟩))))
 rw [if_neg k5]
 by_cases k6 : 6 ≤ c.kind ∧ c.kind ≤ 12
 ·rw [if_pos k6, set_top]; exact .inl rfl
 ·rw [if_neg k6]; exact .inl rfl
structure Fit (d : Dr) : Prop where
 inv : DInv d
 good : Nd.Good d.top
theorem Fit.apply (h : Fit d) (hA : Abs A d.top) (hdom : ∀ i, (d.at_ i).isSome = true ↔ i ≠ 0 ∧ i ∈ d.top.order) (hB : Abs B (d.apply c).1.top) : Fit (d.apply c).1 :=
 ⟨inv_apply h.inv hA hdom hB, h.good.step hA apply_step⟩
theorem Fit.new : Fit Dr.new := ⟨⟨rfl, fun p hp h => by
  have hp : p ∈ [((0 : Int), true)] := hp
  exact absurd (by rw [List.mem_singleton.1 hp]) h, by decide⟩, Nd.Rch.start.good⟩
theorem checked_le {l : List Sg} : (checked l).1.length ≤ l.length := by
 rw [checked]
 split
 ·exact Nat.zero_le _
 ·exact Nat.le_refl _
theorem change_le {a : Atr} (h : c.small) : (change a c).1.path.length ≤ a.path.length + 30 := by
 have hp : c.atr.path.length ≤ 30 := h.2.1.1
 rw [change]
 by_cases k : c.kind = 6
 ·rw [if_pos k]; show a.path.length ≤ _; omega
 rw [if_neg k]
 by_cases k : c.kind = 7
 ·rw [if_pos k]; show a.path.length ≤ _; omega
 rw [if_neg k]
 by_cases k : c.kind = 8
 ·rw [if_pos k]; show c.atr.path.length ≤ _; omega
 rw [if_neg k]
 by_cases k : c.kind = 9
 ·rw [if_pos k]
  show (pathInsert a.path c.i c.seg).1.length ≤ _
  rw [pathInsert]
  split
  ·exact Nat.zero_le _
  split
  ·exact Nat.zero_le _
  rename_i h2
  have := checked_le (l := a.path.take c.i.toNat ++ c.seg :: a.path.drop c.i.toNat)
  simp only [List.length_append, List.length_cons, List.length_take, List.length_drop] at this
  omega
 rw [if_neg k]
 by_cases k : c.kind = 10
 ·rw [if_pos k]
  show (pathDelete a.path c.i).1.length ≤ _
  rw [pathDelete]
  split
  ·exact Nat.zero_le _
  have := checked_le (l := a.path.take c.i.toNat ++ a.path.drop (c.i.toNat + 1))
  simp only [List.length_append, List.length_cons, List.length_take, List.length_drop] at this
  omega
 rw [if_neg k]
 by_cases k : c.kind = 11
 ·rw [if_pos k]
  show (pathPut a.path c.i c.k c.point).1.length ≤ _
  rw [pathPut]
  split
  ·exact Nat.zero_le _
  split
  ·exact Nat.zero_le _
  have := checked_le (l := a.path.set c.i.toNat ((sgAt a.path c.i).setPoint c.k.toNat c.point))
  simp only [List.length_set] at this
  omega
 rw [if_neg k]
 show (pathSplit a.path c.i).1.length ≤ _
 rw [pathSplit]
 split
 ·exact Nat.zero_le _
 split
 ·exact Nat.zero_le _
 split
 ·exact Nat.zero_le _
 simp only [List.length_append, List.length_cons, List.length_take, List.length_drop]
 omega
theorem small_segs (h : c.small) : segsOf c.ents ≤ 1200 := by
 have h1 := segsOf_le (m := 30) (l := c.ents) fun x hx => (h.2.2 x hx).1
 have h2 := h.1
 have : (c.ents.length : Int) * (30 : Nat) ≤ 40 * 30 := by
  have : (c.ents.length : Int) ≤ 40 := by omega
  omega
 omega
theorem apply_segs (h : c.small) : (d.apply c).1.segs ≤ d.segs + 1200 := by
 have hs := small_segs h
 rw [Dr.apply]
 by_cases k1 : c.kind = 1
 ·rw [if_pos k1, Dr.add]
  repeat' split
  all_goals first | (show d.segs ≤ _; omega) | (show d.segs + segsOf _ ≤ _; omega)
 rw [if_neg k1]
 by_cases k2 : c.kind = 2
 ·rw [if_pos k2, Dr.remove]
  simp only
  split
  ·show d.segs ≤ _; omega
  ·have := segsOf_nonneg (ents d.get (Nd.remove d.top c.id).2.1)
   show d.segs - _ ≤ _; omega
 rw [if_neg k2]
 by_cases k3 : c.kind = 3
 ·rw [if_pos k3, Dr.move]
  simp only
  split <;> (show d.segs ≤ _; omega)
 rw [if_neg k3]
 by_cases k4 : c.kind = 4
 ·rw [if_pos k4, Dr.wrap]
  simp only
  repeat' split
  all_goals (show d.segs ≤ _; omega)
 rw [if_neg k4]
 by_cases k5 : c.kind = 5
 ·rw [if_pos k5, Dr.unwrap]
  simp only
  split <;> (show d.segs ≤ _; omega)
 rw [if_neg k5]
 by_cases k6 : 6 ≤ c.kind ∧ c.kind ≤ 12
 ·rw [if_pos k6, Dr.set]
  split
  ·show d.segs ≤ _; omega
  split
  ·show d.segs ≤ _; omega
  rename_i a ha
  have := change_le (a := a) h
  repeat' split
  all_goals first | (show d.segs ≤ _; omega) | (show d.segs + _ - _ ≤ _; omega)
 ·rw [if_neg k6]; show d.segs ≤ _; omega
end
end Go.Dc

namespace Go.Sl
open Go.Ls
theorem Mem.base_cut {Ib I1 I3 : Mem} (h : Ib.le I3) : Ib.le (Mem.minus I3 (Mem.minus I1 Ib)) := fun b o hb => by
 have hx : Mem.minus I1 Ib b = none := by unfold Mem.minus; rw [hb]
 exact (Mem.minus_at hx).trans (h b o hb)
theorem Mem.cut_le (I3 X : Mem) : (Mem.minus I3 X).le I3 := fun b o h => (Mem.minus_le h).2
theorem NewV.cut {Ib I1 I3 : Mem} {e : Nat} {v : Value} (h : NewV Ib I1 e v) (h13 : I1.le I3) : NewV (Mem.minus I3 (Mem.minus I1 Ib)) I3 e v := fun a n c hv => by
 obtain ⟨k1, c', k2⟩ := h a n c hv
 refine ⟨?_, c', h13 _ _ k2⟩
 have hx : Mem.minus I1 Ib a.block = some (.cells c' e (0, 0)) := (Mem.minus_at k1).trans k2
 unfold Mem.minus at hx ⊢
 rw [hx]
end Go.Sl
namespace Go.Dc
open Go.Sl Go.Ls Go.Tr
def InM (I : Mem) (v : Value) : Prop := ∀ a n c, v = .slice (some a) n c → 0 < n → ∃ o, I a.block = some o
theorem InM.mono {I I' : Mem} {v : Value} (h : InM I v) (hI : I.le I') : InM I' v := fun a n c hv hn => by
 obtain ⟨o, ho⟩ := h a n c hv hn
 exact ⟨o, hI _ _ ho⟩
theorem LsAt.inM {α : Type} {R : Rep α} {I : Mem} {l : List α} {v : Value} (h : LsAt R I l v) : InM I v := fun a n c hv hn => by
 obtain ⟨css, ⟨a', cap, hv', hc, h0⟩, hall⟩ := h
 rw [hv'] at hv
 injection hv with e1 e2 e3
 rcases h0 with ⟨h0, _⟩ | ⟨b, off, hb, c', ty, fr, h1, _⟩
 ·omega
 ·rw [hb] at e1
  cases e1
  exact ⟨_, h1⟩
theorem InM.new {Ib I1 I2 I3 : Mem} {e : Nat} {v : Value} (h : NewV I1 I2 e v) (h23 : I2.le I3) : InM (Mem.minus I3 (Mem.minus I1 Ib)) v := fun a n c hv hn => by
 obtain ⟨k1, c', k2⟩ := h a n c hv
 have hx : Mem.minus I1 Ib a.block = none := by
  unfold Mem.minus
  split
  ·exact k1
  ·rfl
 exact ⟨_, (Mem.minus_at hx).trans (h23 _ _ k2)⟩
theorem LsAt.back {α : Type} {R R' : Rep α} {I0 I2 : Mem} {l : List α} {v : Value} (hR : ∀ x cs, R I2 x cs → R' I0 x cs) (hI : I0.le I2) (hv : InM I0 v) (h : LsAt R I2 l v) : LsAt R' I0 l v := by
 obtain ⟨css, ⟨a, cap, rfl, hc, h0⟩, hall⟩ := h
 refine ⟨css, ⟨a, cap, rfl, hc, ?_⟩, hall.imp fun x cs k => hR _ _ k⟩
 rcases h0 with h0 | ⟨b, off, rfl, c, ty, fr, h1, h2⟩
 ·exact .inl h0
 ·rcases Nat.eq_zero_or_pos l.length with hz | hp
  ·have hl : l = [] := List.eq_nil_of_length_eq_zero hz
   subst hl
   cases css with
   | nil => exact .inl ⟨rfl, rfl⟩
   | cons _ _ => exact hall.elim
  ·obtain ⟨o, ho⟩ := hv _ _ _ rfl hp
   have h3 := hI _ _ ho
   rw [h1] at h3
   cases h3
   exact .inr ⟨b, off, rfl, c, ty, fr, ho, h2⟩
theorem Atr.at_.back {I0 I2 : Mem} {a : Atr} {t u d q : Value} (h : a.at_ I2 t u d q) (hI : I0.le I2) (ht : InM I0 t) (hu : InM I0 u) (hd : InM I0 d) (hq : InM I0 q) : a.at_ I0 t u d q :=
 ⟨h.mtx, ⟨⟨h.sty.fill.kind, h.sty.fill.frm, h.sty.fill.to, LsAt.back (R := Stp.rep) (R' := Stp.rep) (I0 := I0) (I2 := I2) (fun _ _ k => k) hI ht h.sty.fill.stops⟩, ⟨h.sty.pen.kind, h.sty.pen.frm, h.sty.pen.to, LsAt.back (R := Stp.rep) (R' := Stp.rep) (I0 := I0) (I2 := I2) (fun _ _ k => k) hI hu h.sty.pen.stops⟩, h.sty.rule, h.sty.half, h.sty.cap, LsAt.back (R := Ls.Int.rep) (R' := Ls.Int.rep) (I0 := I0) (I2 := I2) (fun _ _ k => k) hI hd h.sty.dash, h.sty.phase, h.sty.opac, h.sty.mode⟩, LsAt.back (R := Sg.rep) (R' := Sg.rep) (I0 := I0) (I2 := I2) (fun _ _ k => k) hI hq h.path⟩
theorem cs_eq {a b : Atr} {t u d q t' u' d' q' : Value} (h : (.agg (a.cs t u d q).toArray : Value) = .agg (b.cs t' u' d' q').toArray) : t = t' ∧ u = u' ∧ d = d' ∧ q = q' := by
 injection h with h
 have e : a.cs t u d q = b.cs t' u' d' q' := congrArg Array.toList h
 exact ⟨Option.some.inj (congrArg (fun l : List Value => l[15]?) e), Option.some.inj (congrArg (fun l : List Value => l[25]?) e), Option.some.inj (congrArg (fun l : List Value => l[29]?) e), Option.some.inj (congrArg (fun l : List Value => l[33]?) e)⟩
theorem EntN.cut {Ib I1 I2 I3 : Mem} {l : List Ent} {v : Value} (h12 : I1.le I2) (h23 : I2.le I3) (h : LsAt (EntN I2) I3 l v) {e : Nat} (hn : NewV I2 I3 e v) : LsAt Ent.rep (Mem.minus I3 (Mem.minus I1 Ib)) l v :=
 LsAt.back (fun x cs ⟨t, u, d, q, h1, h2, n1, n2, n3, n4⟩ => ⟨t, u, d, q, h1, ⟨h2.id, h2.kids, h2.atr.back (Mem.cut_le _ _) (InM.new (n3.less h12) (Mem.le.refl _)) (InM.new (n4.less h12) (Mem.le.refl _)) (InM.new (n2.less h12) (Mem.le.refl _)) (InM.new (n1.less h12) (Mem.le.refl _))⟩⟩) (Mem.cut_le _ _) (InM.new (hn.less h12) (Mem.le.refl _)) h
end Go.Dc
namespace Go.Proofs.YtggcpoleklcmkaaGreatDoor
open Go.Sl Go.Ls Go.Tr Go.Dc
theorem DAbs.cut {Ib I1 I2 I3 : Mem} {D D' : Dm} {d d' : Dr} (hD : DAbs Ib D d) (hD2 : DAbs I2 D' d') (hU : UpdF I1 D.f I2 D'.f) (h02 : Ib.le I2) (h23 : I2.le I3) : DAbs (Mem.minus I3 (Mem.minus I1 Ib)) D' d' := by
 refine ⟨hD2.abs, fun i => ?_, hD2.segs, hD2.dom, hD2.lim⟩
 rcases hD2.rep i with h | ⟨a, v, h1, h2, t, u, dd, q, rfl, h3⟩
 ·exact .inl h
 have hb : Ib.le (Mem.minus I3 (Mem.minus I1 Ib)) := Mem.base_cut (h02.trans h23)
 have key : InM (Mem.minus I3 (Mem.minus I1 Ib)) t ∧ InM (Mem.minus I3 (Mem.minus I1 Ib)) u ∧ InM (Mem.minus I3 (Mem.minus I1 Ib)) dd ∧ InM (Mem.minus I3 (Mem.minus I1 Ib)) q := by
  rcases hU i _ h2 with hf | ⟨a', t', u', d', q', he, _, n1, n2, n3, n4⟩
  ·rcases hD.rep i with ⟨_, h5⟩ | ⟨a0, v0, _, h6, t0, u0, d0, q0, he0, h7⟩
   ·rw [hf] at h5; cases h5
   ·rw [hf] at h6
    injection h6 with h6
    rw [he0] at h6
    obtain ⟨rfl, rfl, rfl, rfl⟩ := cs_eq h6
    exact ⟨(LsAt.inM h7.sty.fill.stops).mono hb, (LsAt.inM h7.sty.pen.stops).mono hb, (LsAt.inM h7.sty.dash).mono hb, (LsAt.inM h7.path).mono hb⟩
  ·obtain ⟨rfl, rfl, rfl, rfl⟩ := cs_eq he
   exact ⟨InM.new n3 h23, InM.new n4 h23, InM.new n2 h23, InM.new n1 h23⟩
 obtain ⟨k1, k2, k3, k4⟩ := key
 exact .inr ⟨a, _, h1, h2, t, u, dd, q, rfl, (h3.mono h23).back (Mem.cut_le _ _) k1 k2 k3 k4⟩
end Go.Proofs.YtggcpoleklcmkaaGreatDoor

namespace Go.Sl
open Go.Ls
theorem WC.thaw2 {Γ : Cx} {ρ : Nat → Value} {I I0 : Mem} {F : HP} {L : List HP} {Q : Post} {c : Code} (t : Nat → Nat → Prop) (hI : I0.le I) (next : WC Γ c ρ I0 (F :: simM t (Mem.minus I I0) :: L) Q) : WC Γ c ρ I (F :: L) Q := fun a w ha hw => next a w ha ((hw.thaw t hI).perm (List.Perm.swap _ _ _))
theorem All2.dropNth {α β : Type} {R : α → β → Prop} {l : List α} {r : List β} {i : Nat} (h : All2 R (l.drop i) (r.drop i)) (h1 : i < l.length) (h2 : i < r.length) : R l[i] r[i] ∧ All2 R (l.drop (i + 1)) (r.drop (i + 1)) := by
 rw [List.drop_eq_getElem_cons h1, List.drop_eq_getElem_cons h2] at h
 exact h
end Go.Sl
namespace Go.Dc
open Go.Sl Go.Ls Go.Tr
def keepE : Nat → Nat → Prop := fun e j => e = 69 ∧ j % 37 ≠ 0
def EntP (I0 : Mem) : Rep Ent := fun I x cs => ∃ t u d q, cs = x.cs t u d q ∧ x.at_ I t u d q ∧ NewV I0 I 57 q
instance (I0 : Mem) : RepMono (EntP I0) := ⟨fun h hI => by
 obtain ⟨t, u, d, q, h1, h2, h3⟩ := h
 exact ⟨t, u, d, q, h1, h2.mono hI, h3.mono hI⟩⟩
instance (I0 : Mem) : RepLen (EntP I0) 37 := ⟨fun ⟨t, u, d, q, h, _⟩ => by rw [h]; rfl⟩
theorem LsAt.entP {I0 I : Mem} {l : List Ent} {v : Value} (h : LsAt (EntP I0) I l v) : LsAt Ent.rep I l v := by
 obtain ⟨css, h1, h2⟩ := h
 exact ⟨css, h1, h2.imp fun a b ⟨t, u, d, q, h, k, _⟩ => ⟨t, u, d, q, h, k⟩⟩
theorem set_take {α : Type} {css : List α} {i : Nat} {r : α} (h : i < css.length) : (css.set i r).take (i + 1) = css.take i ++ [r] ∧ (css.set i r).drop (i + 1) = css.drop (i + 1) := by
 have e : css.set i r = (css.take i ++ [r]) ++ css.drop (i + 1) := by rw [List.set_eq_take_append_cons_drop, if_pos h, List.append_assoc]; rfl
 have hl : (css.take i ++ [r]).length = i + 1 := by rw [List.length_append, List.length_take]; show min i css.length + 1 = _; omega
 rw [e]
 exact ⟨List.take_left' hl, List.drop_left' hl⟩
theorem row_path {css : List (List Value)} (hz : ∀ c ∈ css, c.length = 37) {i : Nat} (hi : i < css.length) {x : Ent} {t u d q q' : Value} (hc : css[i] = x.cs t u d q) : splice css.flatten (0 + (i : Int).toNat * 37 + 3 + 33) [q'] = (css.set i (x.cs t u d q')).flatten := by
 have := flat_splice (by decide) css hz i 36 [q'] hi (Nat.le_refl 37)
 rw [Nat.zero_add, Int.toNat_natCast, Nat.add_assoc, this, hc]
 rfl
theorem row_q {css : List (List Value)} (hz : ∀ c ∈ css, c.length = 37) {i : Nat} (hi : i < css.length) {x : Ent} {t u d q : Value} (hc : css[i] = x.cs t u d q) : ∀ j w, [q][j]? = some w → css.flatten[0 + (i : Int).toNat * 37 + 3 + 33 + j]? = some w := by
 intro j w h
 cases j with
 | succ j => simp at h
 | zero =>
  simp at h
  subst h
  rw [Nat.zero_add, Int.toNat_natCast, Nat.add_assoc, Nat.add_zero, flat_at (by decide) css hz i 36 (by decide), List.getElem?_eq_getElem hi]
  show css[i][36]? = _
  rw [hc]
  rfl
end Go.Dc
namespace Go.Proofs.YtggcpoleklcmkaaGreatDoor
open Go.Sl Go.Ls Go.Tr Go.Dc
theorem dOwn (l : List Cm) (v : Value) (I : Mem) (hN : NeedAt I) (hv : LsAt Cm.rep I l v) : Ctr Tryz.prog 7 [v] I [] (KeepR [] fun v _ => v = .bool true) := by
 have hv0 := hv
 obtain ⟨a1, c1, rfl⟩ := hv.sl
 refine Ctr.intro Tryz.func7 rfl rfl rfl fun E F => ?_
 refine jS (jg rfl (jM (jB (jS (jc rfl ?_)))))
 refine WL.callE rfl rfl (small_ctr l 20 _ _ hv0) rfl (fun hs => ?_) (fun hs => ?_)
 case refine_2 =>
  refine jl rfl (jM (jF (jS (WL.callP [] rfl rfl (dAwake _ hN) rfl ?_))))
  rintro _ I2 _ hI2 ⟨rfl, rfl⟩
  refine jW ?_
  refine jg rfl (jM (jR (jU ?_)))
  exact jP [] (jr1 rfl (jtB rfl)) ⟨rfl, rfl⟩
 have hl20 := hs.2
 refine jl rfl (jM (jE (jV (jK (WL.callP [] rfl rfl (dNew _) rfl ?_)))))
 rintro _ I1 _ _ ⟨rfl, b, tb, mb0, cg, db, rfl, rfl⟩
 have hD0 := new_abs I1 b mb0 cg db tb
 generalize hDe : ({ b := db, A := Ar.fresh b mb0 cg, mb := tb, f := fun _ => none, cnt := 0, segs := 0 } : Dm) = D0 at hD0
 have hL0 : docBox db b tb 0 :: mp tb (fun _ => none) 0 :: (Ar.fresh b mb0 cg).hp = D0.hp := by rw [← hDe]; rfl
 have hb0 : db = D0.b := by rw [← hDe]
 rw [hL0, hb0]
 clear hL0 hb0 hDe
 refine WL.conv (fun w h => (h.perm (List.perm_append_comm (l₁ := [F]) (l₂ := D0.hp))).fold D0.hp) ?_
 refine WL.conv (L' := [F, sts D0.hp]) (fun w h => h.perm (List.Perm.swap _ _ _)) ?_
 refine ji rfl (jM (jB (jS (jd rfl (jm (Val.eqlNilP rfl) ?_)))))
 refine jM (jE (jV (jA (jB (jS (jc rfl (jm (jo rfl) (ja rfl (jM (WC.block ?_))))))))))
 refine WC.loop (fun n ρ' I' L' => ∃ (k : Nat) (D : Dm) (d : Dr), n = l.length - k ∧ k ≤ l.length ∧ I1.le I' ∧ ρ' 3 = ptr D.b ∧ ρ' 18 = .slice a1 l.length c1 ∧ ρ' 19 = vi l.length ∧ ρ' 20 = vi k ∧ L' = [F, sts D.hp] ∧ DAbs I' D d ∧ Fit d ∧ d.segs ≤ 1200 * (k : Int))
  l.length ⟨0, D0, Dr.new, rfl, Nat.zero_le _, Mem.le.refl _, rfl, rfl, rfl, rfl, rfl, hD0, Fit.new, by decide⟩ ?_
 clear hD0
 rintro n ρ' Ib L' ⟨k, D, d, rfl, hk, hIb, r3, r18, r19, r20, rfl, hD, hF, hsg⟩
 refine ju4 r20 r19 r18 r3 ?_
 have hNb := hN.mono hIb
 by_cases hkn : k < l.length
 case neg =>
  have hkl : k = l.length := by omega
  subst hkl
  refine jS (jx rfl rfl (jM (jB (jE (WC.exit (WX.thenExit (WX.thenExit (WX.inHit (jK (WL.callP [] rfl rfl (dAwake _ hNb) rfl ?_))))))))))
  rintro _ I2 _ hI2 ⟨rfl, rfl⟩
  refine jW ?_
  refine jg rfl (jM (jR ?_))
  have hJ := hIb.trans hI2
  exact jP [] (jr1 rfl (jtB rfl)) ⟨rfl, rfl⟩
 obtain ⟨bq, off, cap, cs, he, ⟨e, t, u, dd, q, rfl, hc⟩, hA⟩ := (hv0.mono hIb).get k hkn
 cases he
 have hsm := hs.1 _ (List.getElem_mem hkn)
 generalize l[k] = c at *
 have hse := small_segs hsm
 have hnn := segsOf_nonneg c.ents
 have hle : c.ents.length ≤ 100000 := by have := hsm.1; omega
 have hlp : c.atr.path.length ≤ 30 := hsm.2.1.1
 have hsg2 := apply_segs (d := d) hsm
 have hc0 := hc
 obtain ⟨x0, y0, x1, y1, x2, y2, x3, y3, x4, y4, rfl, rfl, rfl, rfl, rfl⟩ := hc.sl
 refine jS (jy rfl rfl (jM (jB (jF (jV (jA (jB (WC.block (jS (jm (jZ rfl rfl) (jm (Val.loadI rfl (by assumption) rfl) ?_)))))))))))
 refine WL.alloc rfl (fun _ => ?_)
 refine jW ?_
 refine WL.stA 2 rfl rfl rfl rfl ?_
 refine jN (WL.buildSlice (by with_unfolding_all exact rfl) rfl (by with_unfolding_all exact rfl) rfl (fun _ => ?_))
 refine jW ?_
 refine jm (jn rfl) (jm (jp 2 rfl rfl rfl) ?_)
 rename_i g5 g9
 refine WL.boxSl (e := 69) (sz := 37) (n := 0) (xs := []) 3 rfl rfl (by decide) ?_
 refine WL.appL (R := Ent.rep) (l := []) (m := c.ents) 3 rfl rfl ⟨[], rfl, trivial⟩ rfl hc0.ents (fun x cs h => ?_) (by rfl) (by decide) (by simp only [List.length_nil]; omega) (by simp only [List.length_nil]; unfold maxLen; omega) rfl fun ea ec p0 hp0 => ?_
 ·obtain ⟨t1, u1, d1, q1, rfl, h⟩ := h
  obtain ⟨_, _, _, _, _, _, _, _, rfl, rfl, rfl, rfl⟩ := h.sl
  rfl
 refine WL.nSet ?_
 simp only [List.nil_append] at hp0 ⊢
 refine jm (jn rfl) (WL.stS 2 rfl rfl rfl rfl ?_)
 refine jN (WL.buildSlice (by with_unfolding_all exact rfl) rfl (by with_unfolding_all exact rfl) rfl (fun _ => ?_))
 refine jW ?_
 refine jm (jn rfl) (jm (jn rfl) (jm (jp 2 rfl rfl rfl) ?_))
 rename_i g10
 refine WL.boxSl (e := 57) (sz := 7) (n := 0) (xs := []) 4 rfl rfl (by decide) ?_
 refine WL.appL (R := Sg.rep) (l := []) (m := c.atr.path) 4 rfl rfl ⟨[], rfl, trivial⟩ rfl hc0.atr.path (fun x cs h => by rw [h.1]; rfl) (by rfl) (by decide) (by simp only [List.length_nil]; omega) (by simp only [List.length_nil]; unfold maxLen; omega) rfl fun qa qc p1 hp1 => ?_
 refine WL.nSet ?_
 simp only [List.nil_append] at hp1 ⊢
 refine WL.freezeN 4 rfl hp1 fun I2 hI2 hq hnq => ?_
 refine jm (jn rfl) (jm (jn rfl) (WL.stS 2 rfl rfl rfl rfl ?_))
 refine jM (jB (jS (jm (jn rfl) (jm (jp 2 rfl rfl rfl) (jm (jo rfl) (ja rfl (jM (WC.block ?_))))))))
 obtain ⟨css0, rfl, hall0⟩ := hp0
 refine WC.slOpen 3 rfl fun ea' ec' hes heg _ => ?_
 cases hes
 refine WC.loop (fun n ρ' I' L' => ∃ (i : Nat) (css : List (List Value)), n = c.ents.length - i ∧ i ≤ c.ents.length ∧ I2.le I' ∧ ρ' 3 = ptr D.b ∧ ρ' 5 = ptr g5 ∧ ρ' 18 = .slice (some ⟨bq, off, none⟩) l.length c1 ∧ ρ' 19 = vi l.length ∧ ρ' 20 = vi k ∧ ρ' 38 = vi c.ents.length ∧ ρ' 39 = vi i ∧
   L' = [F, sts D.hp, box g5 59 (c.cs (.slice ea c.ents.length ec) (.slice x1 c.atr.sty.fill.stops.length y1) (.slice x2 c.atr.sty.pen.stops.length y2) (.slice x3 c.atr.sty.dash.length y3) (.slice qa c.atr.path.length qc)), sl 69 37 (.slice ea c.ents.length ec) c.ents.length css.flatten] ∧ css.length = c.ents.length ∧ All2 (EntP Ib I') (c.ents.take i) (css.take i) ∧ All2 (Ent.rep I') (c.ents.drop i) (css.drop i))
  c.ents.length ⟨0, css0, rfl, Nat.zero_le _, Mem.le.refl _, rfl, rfl, rfl, rfl, rfl, rfl, rfl, rfl, hall0.len.symm, trivial, hall0.imp fun a b h => RepMono.mono h hI2⟩ ?_
 clear hall0
 rintro n ρ' I3 L' ⟨i, css, rfl, hi, hI3, r3, r5, r18, r19, r20, r38, r39, rfl, hcl, hd1, hd2⟩
 refine ju7 r39 r38 r20 r19 r18 r5 r3 ?_
 by_cases hin : i < c.ents.length
 ·obtain ⟨g0, rfl⟩ := heg (by omega)
  have hz : ∀ r ∈ css, r.length = 37 := fun r hr => by
   rw [← List.take_append_drop i css] at hr
   rcases List.mem_append.1 hr with h | h
   ·exact hd1.lens r h
   ·exact hd2.lens r h
  obtain ⟨hrow, hrest⟩ := All2.dropNth hd2 hin (by omega)
  obtain ⟨t1, u1, d1, q1, hcs, hx⟩ := hrow
  have htk := List.take_succ_eq_append_getElem hin
  have hxs := (hsm.2.2 _ (List.getElem_mem hin)).1
  generalize c.ents[i] = x at *
  have hxp := hx.atr.path
  obtain ⟨xa, xc, rfl⟩ := hxp.sl
  refine jS (jy rfl rfl (jM (jB (jF (jV (jA (jB (WC.block (jS (ja rfl (jf rfl (jM (j8 15 [2, 2] rfl (jT 0 rfl (jn rfl) (jT 1 rfl (jp 0 rfl rfl rfl) (jT 2 rfl (Val.moveI rfl) (jT 4 rfl (jn rfl) (jT 5 rfl (jp 0 rfl rfl rfl) (jT 6 rfl (Val.moveI rfl) (jT 7 rfl (jZ rfl rfl) (jT 8 rfl (jn rfl) (jT 9 rfl (jn rfl) (jT 10 rfl (Val.loadS rfl (Rd.slN 1 rfl _ _ (row_q hz (by omega) hcs))) ?_)))))))))))))))))))))))
  refine j5 3 rfl (WL.buildSlice (by with_unfolding_all exact rfl) rfl (by with_unfolding_all exact rfl) rfl (fun _ => ?_))
  rename_i g14
  refine jW ?_
  refine WL.boxSl (e := 57) (sz := 7) (n := 0) (xs := []) 4 rfl rfl (by decide) ?_
  refine jC (j7 [2, 2] rfl (j5 11 rfl (WL.appL (R := Sg.rep) (l := []) (m := x.atr.path) 4 rfl rfl ⟨[], rfl, trivial⟩ rfl hxp (fun x cs h => by rw [h.1]; rfl) (by rfl) (by decide) (by simp only [List.length_nil]; omega) (by simp only [List.length_nil]; unfold maxLen; omega) rfl fun qa2 qc2 p2 hp2 => ?_)))
  refine WL.nSet ?_
  simp only [List.nil_append] at hp2 ⊢
  refine WL.freezeN 4 rfl hp2 fun I4 hI4 hq2 hnq2 => ?_
  refine jC (j9 [2, 2] (hI4) rfl (j5 12 rfl (jm (jZ rfl rfl) (jC (j9 [2, 2] (hI4) rfl (j5 13 rfl (jm (jn rfl) (jC (j9 [2, 2] (hI4) rfl (j5 14 rfl (jm (jn rfl) (jC (j9 [2, 2] (hI4) rfl (j5 15 rfl (WL.storeSl 3 rfl rfl rfl rfl (by show 0 + (i : Int).toNat * 37 + 3 + 33 + 1 ≤ c.ents.length * 37; rw [Int.toNat_natCast]; omega) ?_)))))))))))))))
  refine WL.nSet ?_
  have hil : i < css.length := by omega
  change WL _ _ _ _ _ [F, sts D.hp, _, sl _ 37 _ _ (splice css.flatten (0 + (i : Int).toNat * 37 + 3 + 33) [.slice qa2 x.atr.path.length qc2])] _
  rw [row_path (q' := .slice qa2 x.atr.path.length qc2) hz hil hcs]
  refine jC (WK.anyLast (WA.done (by kernel_rfl) (WX.inNormal (jA (jD (jX rfl rfl (ja rfl (jC ?_))))))))
  have hJ3 := hI2.trans hI3
  have hx4 := hx.mono hI4
  refine WX.thenK (WK.round (c.ents.length - (i + 1)) (by omega) ⟨i + 1, css.set i (x.cs t1 u1 d1 (.slice qa2 x.atr.path.length qc2)), rfl, by omega, hI3.trans hI4, rfl, rfl, rfl, rfl, rfl, rfl, rfl, rfl, by rw [List.length_set]; exact hcl, ?_, ?_⟩)
  ·rw [htk, (set_take hil).1]
   exact (hd1.imp fun a b h => RepMono.mono h hI4).app ⟨⟨_, _, _, _, rfl, ⟨hx4.id, hx4.kids, ⟨hx4.atr.mtx, hx4.atr.sty, hq2⟩⟩, hnq2.less hJ3⟩, trivial⟩
  ·rw [(set_take hil).2]
   exact hrest.imp fun a b h => RepMono.mono h hI4
 have hil : i = c.ents.length := by omega
 subst hil
 rw [List.take_length, List.take_of_length_le (by omega)] at hd1
 refine jS (jx rfl rfl (jM (jB (jE (WC.exit (WX.thenExit (WX.thenExit (WX.inHit (jK (jd rfl (jm (jt 2 rfl rfl rfl) ?_)))))))))))
 have hp3 : OwnL (EntP Ib) 69 37 I3 c.ents (.slice ea c.ents.length ec) (sl 69 37 (.slice ea c.ents.length ec) c.ents.length css.flatten) := ⟨css, rfl, hd1⟩
 refine WL.freezeN 3 rfl hp3 fun I4 hI4 hen hne => ?_
 have hJ3 := hI2.trans hI3
 have hJ4 := hJ3.trans hI4
 have hq4 := hq.mono (hI3.trans hI4)
 have hc4 := hc0.mono hJ4
 have hc5 : c.at_ I4 (.slice ea c.ents.length ec) (.slice x1 c.atr.sty.fill.stops.length y1) (.slice x2 c.atr.sty.pen.stops.length y2) (.slice x3 c.atr.sty.dash.length y3) (.slice qa c.atr.path.length qc) :=
  ⟨hc4.kind, hc4.id, hc4.parent, hc4.index, hc4.count, hc4.i, hc4.k, LsAt.entP hen, ⟨hc4.atr.mtx, hc4.atr.sty, hq4⟩, hc4.seg, hc4.point⟩
 refine WL.callSts 1 rfl rfl rfl (dApplyN D d c _ _ _ _ _ _ (hNb.mono hJ4) (hD.mono hJ4) hc5 hle hF.inv.nonneg (by omega)) rfl ?_
 rintro _ I5 _ hI5 ⟨D', bcs, rfl, ⟨e', t', u', d', q', rfl, hbk⟩, hb, rfl, hD', hU⟩
 obtain ⟨_, _, _, _, _, _, _, _, _, _, rfl, rfl, rfl, rfl, rfl⟩ := hbk.sl
 refine WL.nSet ?_
 rw [← hb]
 have hF' := hF.apply (c := c) hD.abs hD.dom hD'.abs
 refine jN (jd rfl (WL.callStsR 1 rfl rfl rfl (dEntriesN D' _ _ hD') rfl ?_))
 rintro w I6 hI6 ⟨hw, hnw⟩
 obtain ⟨wa, wc, rfl⟩ := hw.sl
 have h46 := hI5.trans hI6
 have hf1 : DAbs (Mem.minus I6 (Mem.minus I4 Ib)) D' (d.apply c).1 := DAbs.cut hD hD' hU (hJ4.trans hI5) hI6
 have hf2 : LsAt Ent.rep (Mem.minus I6 (Mem.minus I4 Ib)) (d.apply c).1.entries (.slice wa (d.apply c).1.entries.length wc) := EntN.cut hI5 hI6 hw hnw
 have hf3 : ∀ e v, NewV Ib I4 e v → NewV (Mem.minus I6 (Mem.minus I4 Ib)) I6 e v := fun e v h => h.cut h46
 have hf7 : Ib.le (Mem.minus I6 (Mem.minus I4 Ib)) := Mem.base_cut (hJ4.trans h46)
 have hfl : (Mem.minus I6 (Mem.minus I4 Ib)).le I6 := Mem.cut_le _ _
 generalize Mem.minus I6 (Mem.minus I4 Ib) = I0 at *
 have hq6 := hq4.mono h46
 have hnq6 := hf3 _ _ (hnq.mono (hI3.trans hI4))
 have hne6 := hf3 _ _ (hne.less hJ3)
 refine jh rfl (jM (jB (jS (jm (jn rfl) (jm (jn rfl) (jm (jp 2 rfl rfl rfl) (jm (jo rfl) (ja rfl (jM (WC.block (WC.thaw2 keepE hfl ?_)))))))))))
 refine WC.loop (fun n ρ' I' L' => ∃ i : Nat, n = c.atr.path.length - i ∧ i ≤ c.atr.path.length ∧ I' = I0 ∧ ρ' 3 = ptr D'.b ∧ ρ' 5 = ptr g5 ∧ ρ' 7 = .slice wa (d.apply c).1.entries.length wc ∧ ρ' 18 = .slice (some ⟨bq, off, none⟩) l.length c1 ∧ ρ' 19 = vi l.length ∧ ρ' 20 = vi k ∧ ρ' 66 = vi c.atr.path.length ∧ ρ' 67 = vi i ∧ L' = [F, simM keepE (Mem.minus I6 I0), sts D'.hp, box g5 59 (c.cs (.slice ea c.ents.length ec) (.slice x1 c.atr.sty.fill.stops.length y1) (.slice x2 c.atr.sty.pen.stops.length y2) (.slice x3 c.atr.sty.dash.length y3) (.slice qa c.atr.path.length qc))])
  c.atr.path.length ⟨0, rfl, Nat.zero_le _, rfl, rfl, rfl, rfl, rfl, rfl, rfl, rfl, rfl, rfl⟩ ?_
 rintro n ρ' I7 L' ⟨i, rfl, hi, rfl, r3, r5, r7, r18, r19, r20, r66, r67, rfl⟩
 refine ju8 r67 r66 r20 r19 r18 r7 r5 r3 ?_
 by_cases hin : i < c.atr.path.length
 ·obtain ⟨b5, off5, cap5, cs5, he5, ⟨rfl, _⟩, hA5⟩ := hq6.get i hin
  cases he5
  refine jS (jy rfl rfl (jM (jB (jF (jV (jA (jB (WC.block (jS (ja rfl (jf rfl (jM (jD (jm (jn rfl) (jm (jn rfl) (jm (jp 3 rfl rfl rfl) (ja rfl (jm (jZ rfl rfl) (jm (jn rfl) (WL.storeSim (j := 0) 1 rfl rfl hnq6 hA5 (Nat.zero_lt_succ _) (fun h => absurd h.1 (by decide)) rfl rfl rfl ?_))))))))))))))))))))
  exact jC (WX.inNormal (jA (jD (jX rfl rfl (ja rfl (jC (WX.thenK (WK.round (c.atr.path.length - (i + 1)) (by omega) ⟨i + 1, rfl, by omega, rfl, rfl, rfl, rfl, rfl, rfl, rfl, rfl, rfl, rfl⟩))))))))
 have hil : i = c.atr.path.length := by omega
 subst hil
 refine jS (jx rfl rfl (jM (jB (jE (WC.exit (WX.thenExit (WX.thenExit (WX.inHit (jA (jB (jS (jm (jn rfl) (jm (jp 3 rfl rfl rfl) (jm (jo rfl) (ja rfl (jM (WC.block ?_)))))))))))))))))
 refine WC.loop (fun n ρ' I' L' => ∃ i : Nat, n = c.ents.length - i ∧ i ≤ c.ents.length ∧ I' = I7 ∧ ρ' 3 = ptr D'.b ∧ ρ' 5 = ptr g5 ∧ ρ' 7 = .slice wa (d.apply c).1.entries.length wc ∧ ρ' 18 = .slice (some ⟨bq, off, none⟩) l.length c1 ∧ ρ' 19 = vi l.length ∧ ρ' 20 = vi k ∧ ρ' 79 = vi c.ents.length ∧ ρ' 80 = vi i ∧ L' = [F, simM keepE (Mem.minus I6 I7), sts D'.hp, box g5 59 (c.cs (.slice ea c.ents.length ec) (.slice x1 c.atr.sty.fill.stops.length y1) (.slice x2 c.atr.sty.pen.stops.length y2) (.slice x3 c.atr.sty.dash.length y3) (.slice qa c.atr.path.length qc))])
  c.ents.length ⟨0, rfl, Nat.zero_le _, rfl, rfl, rfl, rfl, rfl, rfl, rfl, rfl, rfl, rfl⟩ ?_
 rintro n ρ' I8 L' ⟨i, rfl, hi, rfl, r3, r5, r7, r18, r19, r20, r79, r80, rfl⟩
 refine ju8 r80 r79 r20 r19 r18 r7 r5 r3 ?_
 by_cases hin : i < c.ents.length
 ·obtain ⟨g0, rfl⟩ := heg (by omega)
  obtain ⟨b6, off6, cap6, cs6, he6, ⟨t1, u1, d1, q1, rfl, hx4, hnx⟩, hA4⟩ := hen.get i hin
  cases he6
  have hnx6 := hf3 _ _ hnx
  have hx := hx4.mono h46
  have hA6 := hA4.mono h46
  have hxs := (hsm.2.2 _ (List.getElem_mem hin)).1
  generalize c.ents[i] = x at *
  have hxp := hx.atr.path
  obtain ⟨xa, xc, rfl⟩ := hxp.sl
  refine jS (jy rfl rfl (jM (jB (jF (jV (jA (jB (WC.block (jS (ja rfl (jf rfl (jM (jB (jS (jm (jn rfl) (jm (jp 3 rfl rfl rfl) (ja rfl (jm (jZ rfl rfl) (jm (jn rfl) (jm (jn rfl) (jm (Val.loadS rfl (Rd.sim 1 36 rfl hne6 hA6 rfl ⟨rfl, by rw [Int.toNat_natCast]; omega⟩)) ?_)))))))))))))))))))))
  refine jm (jo rfl) (ja rfl (jM (WC.block ?_)))
  refine WC.loop (fun n ρ' I' L' => ∃ j : Nat, n = x.atr.path.length - j ∧ j ≤ x.atr.path.length ∧ I' = I8 ∧ ρ' 3 = ptr D'.b ∧ ρ' 5 = ptr g5 ∧ ρ' 7 = .slice wa (d.apply c).1.entries.length wc ∧ ρ' 18 = .slice (some ⟨bq, off, none⟩) l.length c1 ∧ ρ' 19 = vi l.length ∧ ρ' 20 = vi k ∧ ρ' 79 = vi c.ents.length ∧ ρ' 80 = vi i ∧ ρ' 9 = vi i ∧ ρ' 90 = vi x.atr.path.length ∧ ρ' 91 = vi j ∧ L' = [F, simM keepE (Mem.minus I6 I8), sts D'.hp, box g5 59 (c.cs (.slice (some ⟨g0, 0, none⟩) c.ents.length ec) (.slice x1 c.atr.sty.fill.stops.length y1) (.slice x2 c.atr.sty.pen.stops.length y2) (.slice x3 c.atr.sty.dash.length y3) (.slice qa c.atr.path.length qc))])
   x.atr.path.length ⟨0, rfl, Nat.zero_le _, rfl, rfl, rfl, rfl, rfl, rfl, rfl, rfl, rfl, rfl, rfl, rfl, rfl⟩ ?_
  rintro n ρ' I9 L' ⟨j, rfl, hj, rfl, r3, r5, r7, r18, r19, r20, r79, r80, r9, r90, r91, rfl⟩
  refine ju11 r91 r90 r9 r80 r79 r20 r19 r18 r7 r5 r3 ?_
  by_cases hjn : j < x.atr.path.length
  ·obtain ⟨b5, off5, cap5, cs5, he5, ⟨rfl, _⟩, hA5⟩ := hxp.get j hjn
   cases he5
   refine jS (jy rfl rfl (jM (jB (jF (jV (jA (jB (WC.block (jS (ja rfl (jf rfl (jM (jD (jm (jn rfl) (jm (jp 3 rfl rfl rfl) (ja rfl (jm (jZ rfl rfl) (jm (jn rfl) (jm (jn rfl) (jm (Val.loadS rfl (Rd.sim 1 36 rfl hne6 hA6 rfl ⟨rfl, by rw [Int.toNat_natCast]; omega⟩)) ?_))))))))))))))))))))
   refine ja rfl (jm (jZ rfl rfl) (jm (jn rfl) (WL.storeSim (j := 0) 1 rfl rfl hnx6 hA5 (Nat.zero_lt_succ _) (fun h => absurd h.1 (by decide)) rfl rfl rfl ?_)))
   exact jC (WX.inNormal (jA (jD (jX rfl rfl (ja rfl (jC (WX.thenK (WK.round (x.atr.path.length - (j + 1)) (by omega) ⟨j + 1, rfl, by omega, rfl, rfl, rfl, rfl, rfl, rfl, rfl, rfl, rfl, rfl, rfl, rfl, rfl⟩))))))))
  have hjl : j = x.atr.path.length := by omega
  subst hjl
  refine jS (jx rfl rfl (jM (jB (jE (WC.exit (WX.thenExit (WX.thenExit (WX.inHit (jA (jD (jm (jn rfl) (jm (jp 3 rfl rfl rfl) (ja rfl (jm (jZ rfl rfl) (jm (jn rfl) (WL.storeSim (j := 0) 1 rfl rfl hne6 hA6 (Nat.zero_lt_succ _) (fun h => h.2 (by show (0 + (i : Int).toNat * 37 + 0) % 37 = 0; rw [Int.toNat_natCast]; omega)) rfl rfl rfl ?_))))))))))))))))
  exact jC (WX.inNormal (jA (jD (jX rfl rfl (ja rfl (jC (WX.thenK (WK.round (c.ents.length - (i + 1)) (by omega) ⟨i + 1, rfl, by omega, rfl, rfl, rfl, rfl, rfl, rfl, rfl, rfl, rfl, rfl⟩))))))))
 have hil : i = c.ents.length := by omega
 subst hil
 refine jS (jx rfl rfl (jM (jB (jE (WC.exit (WX.thenExit (WX.thenExit (WX.inHit (jK (jc rfl (jd rfl (WL.callStsR 2 rfl rfl rfl (dEntries D' _ _ hf1) rfl ?_))))))))))))
 rintro w2 I9 hI9 hw2
 obtain ⟨wa2, wc2, rfl⟩ := hw2.sl
 skip
 refine WL.callE rfl rfl (eqSame _ _ _ _ _ (hf2.mono hI9) hw2) rfl (fun h => ?_) (fun h => absurd rfl h)
 exact jl rfl (jM (jE (jV (WX.inNormal (jA (jD (jX rfl rfl (ja rfl (jC (WX.conv (fun w h => h.sub [0, 1] rfl) (WX.thenK (WK.round (l.length - (k + 1)) (by omega) ⟨k + 1, D', (d.apply c).1, rfl, by omega, hIb.trans (hf7.trans hI9), rfl, rfl, rfl, rfl, rfl, hf1.mono hI9, hF', by omega⟩))))))))))))
end Go.Proofs.YtggcpoleklcmkaaGreatDoor
