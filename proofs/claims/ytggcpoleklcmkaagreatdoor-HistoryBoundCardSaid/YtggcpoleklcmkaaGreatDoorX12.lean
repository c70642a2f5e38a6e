/-
 Drawings, the walks: remove. -- KS14
-/
import Derived.Test.YtggcpoleklcmkaaGreatDoorX2
import Derived.Test.YtggcpoleklcmkaaGreatDoorX11
import Derived.Test.YtggcpoleklcmkaaGreatDoorX3
import Derived.Test.YtggcpoleklcmkaaGreatDoorX8
import Derived.Test.YtggcpoleklcmkaaGreatDoorX7
set_option linter.unusedVariables false
set_option linter.unusedSimpArgs false
set_option maxRecDepth 100000
set_option maxHeartbeats 8000000
namespace Go.Proofs.YtggcpoleklcmkaaGreatDoor
open Go.Sl Go.Ls Go.Tr Go.Dc
attribute [local irreducible] WC WL WX WK WA WAK Val Ctr RunRes ResIs Rd At sl box pt Exit.then Exit.inBlock bodyPost Code.wp wpList
theorem dRemove (D : Dm) (d : Dr) (c : Cm) (e t u dd q : Value) (I : Mem) (hD : DAbs I D d) (hc : c.at_ I e t u dd q) (hs0 : 0 ≤ d.segs) (hs1 : d.segs ≤ 1048576) :
  Ctr Tryz.prog 67 [ptr D.b, .agg (c.cs e t u dd q).toArray] I D.hp (ApplyR (d.remove c) D) := by
 obtain ⟨x0, y0, x1, y1, x2, y2, x3, y3, x4, y4, rfl, rfl, rfl, rfl, rfl⟩ := hc.sl
 have hmv : d.remove c = if (Nd.remove d.top c.id).2.2.2.2 ≠ 0 then (d, Cm.z, (Nd.remove d.top c.id).2.2.2.2) else (⟨(Nd.remove d.top c.id).1, dropAll d.at_ (ents (fun i => (d.at_ i).getD Atr.z) (Nd.remove d.top c.id).2.1), d.segs - segsOf (ents (fun i => (d.at_ i).getD Atr.z) (Nd.remove d.top c.id).2.1)⟩, { Cm.z with kind := 1, parent := (Nd.remove d.top c.id).2.2.1, index := (Nd.remove d.top c.id).2.2.2.1, ents := ents (fun i => (d.at_ i).getD Atr.z) (Nd.remove d.top c.id).2.1 }, 0) := by
  rw [Dr.remove]; rfl
 rw [hmv]
 clear hmv
 refine Ctr.intro Tryz.func67 rfl rfl rfl fun E F => ?_
 refine jS (WL.boxA rfl rfl (fun _ => ?_))
 refine jW ?_
 refine WL.alloc rfl (fun _ => ?_)
 refine jW ?_
 refine jf rfl (jM (jB ?_))
 rename_i g3 g4
 refine WC.cutP (fun ρ' I' L' => ∃ (kv : Value) (B : Ar) (g6 : Nat), I.le I' ∧ B.b = D.A.b ∧ Abs B (Nd.remove d.top c.id).1 ∧ LsAt Nd.Rp I' (Nd.remove d.top c.id).2.1.kids kv ∧ I64 (Nd.remove d.top c.id).2.1.id ∧
  ρ' 0 = ptr D.b ∧ ρ' 3 = ptr g3 ∧ ρ' 4 = ptr g4 ∧ ρ' 6 = ptr g6 ∧ ρ' 7 = vi (Nd.remove d.top c.id).2.2.1 ∧ ρ' 8 = vi (Nd.remove d.top c.id).2.2.2.1 ∧ ρ' 9 = vi (Nd.remove d.top c.id).2.2.2.2 ∧
  L' = [sts B.hp, F, docBox D.b D.A.b D.mb D.segs, mp D.mb D.f D.cnt, box g3 59 (c.cs (.slice x0 c.ents.length y0) (.slice x1 c.atr.sty.fill.stops.length y1) (.slice x2 c.atr.sty.pen.stops.length y2) (.slice x3 c.atr.sty.dash.length y3) (.slice x4 c.atr.path.length y4)), box g4 59 (Cm.cs Cm.z (.slice none 0 0) (.slice none 0 0) (.slice none 0 0) (.slice none 0 0) (.slice none 0 0)), box g6 72 [vi (Nd.remove d.top c.id).2.1.id, .bool (Nd.remove d.top c.id).2.1.grp, kv]]) ?_ ?_
 ·skip
  refine j8 999 [1, 7] rfl (jT 0 rfl (Val.moveP rfl) (jT 1 rfl (jr rfl) (jT 2 rfl (jn rfl) (jT 3 rfl (jp 0 rfl rfl rfl) (jT 4 rfl (jn rfl) (jT 5 rfl (jp 1 rfl rfl rfl) ?_))))))
  refine jee 6 12 rfl rfl ?_ ?_
  ·refine WL.callP [3, 3, 3, 3, 3] rfl rfl (tRemove D.A d.top hD.abs c.id _) rfl ?_
   rintro _ I1 _ hI1 ⟨_, B, rfl, ⟨kv, rfl, hkv, hid⟩, hb, rfl, hB⟩
   obtain ⟨ka, kc, rfl⟩ := hkv.sl
   refine jW ?_
   refine jC (j9 [1, 2] (hI1) rfl (jT 7 rfl (Val.moveT rfl) (jT 8 rfl (Val.extractA rfl rfl) (jT 9 rfl (jq rfl rfl) (jT 10 rfl (jq rfl rfl) (jT 11 rfl (jq rfl rfl) (j5 12 rfl (WL.alloc rfl (fun _ => ?_)))))))))
   rename_i g6
   refine jW ?_
   refine jC (j9 [1, 2] (hI1) rfl (j5 13 rfl (WL.stA 10 rfl rfl rfl rfl ?_)))
   refine jC (j9 [1, 2] (hI1) rfl (jT 14 rfl (Val.assignI rfl) (jT 15 rfl (Val.assignI rfl) (jT 16 rfl (Val.assignI rfl) (j6 (WX.conv (fun w h => Sat.fold B.hp (h.sub [5, 5, 5, 5, 5, 0, 0, 0, 0, 0, 0] rfl)) ?_))))))
   refine WX.thenK (WK.meet ?_)
   exact ⟨_, B, g6, hI1, hb, hB, hkv, hid, rfl, rfl, rfl, rfl, rfl, rfl, rfl, rfl⟩
  ·skip
   refine WL.alloc rfl (fun _ => ?_)
   rename_i g6
   refine jW ?_
   refine jC (j7 [1, 7] rfl (j5 6 rfl (WL.callP [3, 3, 3, 3, 3] rfl rfl (tRemove D.A d.top hD.abs c.id _) rfl ?_)))
   rintro _ I1 _ hI1 ⟨_, B, rfl, ⟨kv, rfl, hkv, hid⟩, hb, rfl, hB⟩
   obtain ⟨ka, kc, rfl⟩ := hkv.sl
   refine jW ?_
   refine jC (j9 [1, 2] (hI1) rfl (jT 7 rfl (Val.moveT rfl) (jT 8 rfl (Val.extractA rfl rfl) (jT 9 rfl (jq rfl rfl) (jT 10 rfl (jq rfl rfl) (jT 11 rfl (jq rfl rfl) (j5 13 rfl (WL.stA 5 rfl rfl rfl rfl ?_))))))))
   refine jC (j9 [1, 2] (hI1) rfl (jT 14 rfl (Val.assignI rfl) (jT 15 rfl (Val.assignI rfl) (jT 16 rfl (Val.assignI rfl) (j6 (WX.conv (fun w h => Sat.fold B.hp (h.sub [6, 6, 6, 6, 6, 0, 0, 0, 0, 0, 0] rfl)) ?_))))))
   refine WX.thenK (WK.meet ?_)
   exact ⟨_, B, g6, hI1, hb, hB, hkv, hid, rfl, rfl, rfl, rfl, rfl, rfl, rfl, rfl⟩
 rintro ρ' I1 L' ⟨kv, B, g6, hI1, hb, hB, hkv, hid, r0, r3, r4, r6, r7, r8, r9, rfl⟩
 refine ju7 r9 r8 r7 r6 r4 r3 r0 ?_
 rw [← hb]
 by_cases h2 : (Nd.remove d.top c.id).2.2.2.2 = 0
 case neg =>
  rw [if_pos h2]
  have hrt : (Nd.remove d.top c.id).1 = d.top := by
   rcases hD.abs.rem c.id with ⟨_, h⟩ | ⟨p, k, hk, _, _, _, _, _, e, _⟩
   ·exact h
   ·rw [e] at h2; exact absurd rfl h2
  refine jB (jS (ja rfl (jJ rfl rfl (jM (jF (jS (jm (Val.build0) ?_)))))))
  refine ja rfl (WL.stA 5 rfl rfl rfl rfl ?_)
  refine jf rfl (jM (jR (jU (WX.conv (fun w h => (Sat.unfold h).sub [5, 5, 5, 0, 0, 0, 0, 0, 1] rfl) ?_))))
  refine jP [0, 0, 0, 0, 0, 0, 0] (jr2 rfl (jcL 8 rfl rfl rfl) (jtI rfl)) ?_
  rw [hrt] at hB
  exact ⟨{ D with A := B }, _, rfl, Cm.z_rep _, rfl, rfl, ⟨hB, hD.rep.mono hI1, hD.segs, hD.dom, hD.lim⟩⟩
 rw [if_neg (fun e => e h2)]
 obtain ⟨s1, s2, s3, s4⟩ := hD.abs.rem_small h2
 obtain ⟨o1, o2, o3, o4, o5⟩ := hD.abs.rem_nodup h2
 have hcnt := hD.abs.count_rem h2
 generalize (Nd.remove d.top c.id).1 = top' at *
 generalize (Nd.remove d.top c.id).2.1 = nd at *
 generalize (Nd.remove d.top c.id).2.2.1 = rp at *
 generalize (Nd.remove d.top c.id).2.2.2.1 = ri at *
 have hkv0 := hkv
 obtain ⟨ka, kc, rfl⟩ := hkv.sl
 refine jB (jS (ja rfl (jz rfl rfl (jM (jE (jV (jK (jd rfl (jm (jt 6 rfl rfl rfl) (WL.callR [2, 2] rfl rfl rfl (entries_ctr d.at_ D.f D.b B.b D.mb D.cnt D.segs hD.lim _ nd (Nat.le_refl _) _ _ (by omega) hkv0 hid (hD.rep.mono hI1)) rfl ?_))))))))))
 rintro v I2 hI2 hv
 have hlen := ents_len (fun i => (d.at_ i).getD Atr.z) nd
 have hids := ents_ids (fun i => (d.at_ i).getD Atr.z) nd
 have hlm : ∀ x ∈ ents (fun i => (d.at_ i).getD Atr.z) nd, x.atr.path.length ≤ 1000000 := fun x hx => by
  rw [ents_atr hx]
  show ((d.at_ x.id).getD Atr.z).path.length ≤ _
  cases h : d.at_ x.id with
  | none => exact Nat.zero_le _
  | some a => exact (hD.lim _ _ h).1
 have hnn := segsOf_nonneg (ents (fun i => (d.at_ i).getD Atr.z) nd)
 generalize ents (fun i => (d.at_ i).getD Atr.z) nd = l at *
 have hv0 := hv
 obtain ⟨la, lc, rfl⟩ := hv.sl
 have hds := hD.segs
 rw [hds]
 refine jh rfl (jM (jB (jS (jc rfl (jm (jo rfl) (ja rfl (jM (WC.block ?_))))))))
 have hJ2 := hI1.trans hI2
 refine WC.loop (fun n ρ' I' L' => ∃ (k : Nat) (f' : Int → Option Value) (cnt' : Nat), n = l.length - k ∧ k ≤ l.length ∧ I' = I2 ∧ ρ' 0 = ptr D.b ∧ ρ' 4 = ptr g4 ∧ ρ' 7 = vi rp ∧ ρ' 8 = vi ri ∧ ρ' 10 = .slice la l.length lc ∧ ρ' 32 = .slice la l.length lc ∧ ρ' 33 = vi l.length ∧ ρ' 34 = vi k ∧
   L' = [sts B.hp, F, docBox D.b B.b D.mb (d.segs - segsOf (l.take k)), mp D.mb f' cnt', box g3 59 (c.cs (.slice x0 c.ents.length y0) (.slice x1 c.atr.sty.fill.stops.length y1) (.slice x2 c.atr.sty.pen.stops.length y2) (.slice x3 c.atr.sty.dash.length y3) (.slice x4 c.atr.path.length y4)), box g4 59 (Cm.cs Cm.z (.slice none 0 0) (.slice none 0 0) (.slice none 0 0) (.slice none 0 0) (.slice none 0 0)), box g6 72 [vi nd.id, .bool nd.grp, .slice ka nd.kids.length kc]] ∧ AtRep I2 (dropAll d.at_ (l.take k)) f')
  l.length ⟨0, D.f, D.cnt, rfl, by omega, rfl, rfl, rfl, rfl, rfl, rfl, rfl, rfl, rfl, by rw [List.take_zero]; show _ = [_, _, docBox _ _ _ (d.segs - 0), _, _, _, _]; rw [Int.sub_zero], hD.rep.mono hJ2⟩ ?_
 rintro n ρ' I3 L' ⟨k, f', cnt', rfl, hk, rfl, r0, r4, r7, r8, r10, r32, r33, r34, rfl, hrep⟩
 refine ju8 r34 r33 r32 r10 r8 r7 r4 r0 ?_
 by_cases hkn : k < l.length
 ·obtain ⟨b, off, cap', cs, he, ⟨t1, t2, t3, t4, rfl, hi⟩, hA⟩ := hv0.get k hkn
  cases he
  have hds2 := dropAll_snoc (l.take k) d.at_ l[k]
  have hss := segsOf_snoc (l.take k) l[k]
  rw [← List.take_succ_eq_append_getElem hkn] at hds2 hss
  have hb1 := segsOf_le (m := 1000000) (l := l.take k) fun x hx => hlm x (List.mem_of_mem_take hx)
  have hb0 := segsOf_nonneg (l.take k)
  rw [List.length_take, Nat.min_eq_left (by omega)] at hb1
  have hlk := hlm _ (List.getElem_mem hkn)
  have hlll : (l.length : Int) ≤ 100000 := by omega
  obtain ⟨b1, d1, b2, d2, b3, d3, b4, d4, rfl, rfl, rfl, rfl⟩ := hi.sl
  generalize l[k] = x at *
  refine jS (jy rfl rfl (jM (jB (jF (jV (jA (jB (WC.block (jS (jm (jZ rfl rfl) (jm (Val.loadI rfl (by assumption) rfl) ?_)))))))))))
  refine WL.alloc rfl (fun _ => ?_)
  refine jW ?_
  refine WL.stA 7 rfl rfl rfl rfl ?_
  refine jM (jB (j8 11 [2, 6] rfl (jT 0 rfl (Val.moveP rfl) (jT 1 rfl (jr rfl) (jT 2 rfl (jn rfl) (jT 3 rfl (jp 0 rfl rfl rfl) (jT 4 rfl (jn rfl) (jT 5 rfl (jn rfl) (jT 6 rfl (jp 1 rfl rfl rfl) (jT 7 rfl (jo rfl) (jT 8 rfl (Val.sub rfl rfl (wrap_i64 (by omega) (by omega))) ?_)))))))))))
  refine j5 9 rfl (jm (jr rfl) (jC (j7 [2, 6] rfl (j5 10 rfl (jm (jn rfl) (jC (j7 [2, 6] rfl (j5 11 rfl (WL.stI 2 rfl rfl rfl rfl ?_)))))))))
  refine jC (WK.anyLast (WA.done (by kernel_rfl) (jA (j8 999 [2, 6] rfl (jT 0 rfl (Val.moveP rfl) (jT 1 rfl (jr rfl) (jT 2 rfl (jn rfl) (jT 3 rfl (jp 0 rfl rfl rfl) (jT 4 rfl (jn rfl) (jT 5 rfl (jp 1 rfl rfl rfl) (j5 6 rfl (WL.delete 3 rfl rfl rfl ?_))))))))))))
  refine WL.nSet ?_
  refine jC (j7 [2, 6] rfl (j6 (WX.inNormal (jA (jD (jX rfl rfl (ja rfl (jC ?_))))))))
  rw [show d.segs - segsOf (l.take k) - (x.atr.path.length : Int) = d.segs - segsOf (l.take (k + 1)) by omega]
  refine WX.conv (fun w h => h.sub [0, 0, 0, 0, 0, 0, 0] rfl) ?_
  refine WX.thenK (WK.round (l.length - (k + 1)) (by omega) ⟨k + 1, _, _, rfl, by omega, rfl, rfl, rfl, rfl, rfl, rfl, rfl, rfl, rfl, rfl, ?_⟩)
  rw [hds2]
  exact hrep.down _
 ·have hkl : k = l.length := by omega
  subst hkl
  rw [List.take_length] at hrep ⊢
  refine jS (jx rfl rfl (jM (jB (jE (WC.exit (WX.thenExit (WX.thenExit (WX.inHit (jK (ja rfl (ja rfl (jc rfl (jm (Val.build (cs := (Cm.cs { Cm.z with kind := 1, parent := rp, index := ri, ents := l } (.slice la l.length lc) (.slice none 0 0) (.slice none 0 0) (.slice none 0 0) (.slice none 0 0))) rfl) ?_)))))))))))))
  refine WL.stA 5 rfl rfl rfl rfl ?_
  refine jf rfl (jM (jR (WX.conv (fun w h => (Sat.unfold h).sub [5, 5, 5, 0, 0, 0, 0, 0, 1] rfl) ?_)))
  exact jP [0, 0, 0, 0, 0, 0, 0] (jr2 rfl (jcL 8 rfl rfl rfl) (jtI rfl)) ⟨{ D with A := B, f := f', cnt := cnt', segs := d.segs - segsOf l }, _, rfl, ⟨_, _, _, _, _, rfl, (⟨by decide, by decide⟩ : I64 1), i64z, s1, s2, i64z, i64z, i64z, hv0, Atr.z_at _, Sg.z_ok, Pt.z_ok⟩, rfl, rfl, ⟨hB, hrep, rfl, dom_remove hD.dom hD.abs.od hids hcnt, fun i a h => hD.lim _ _ (dropAll_of _ _ _ _ h)⟩⟩
theorem dApply (D : Dm) (d : Dr) (c : Cm) (e t u dd q : Value) (I : Mem) (hN : NeedAt I) (hD : DAbs I D d) (hc : c.at_ I e t u dd q) (hle : c.ents.length ≤ 100000) (hs0 : 0 ≤ d.segs) (hs1 : d.segs + segsOf c.ents ≤ 1048576) :
  Ctr Tryz.prog 24 [ptr D.b, .agg (c.cs e t u dd q).toArray] I D.hp (ApplyR (d.apply c) D) := by
 have hc0 := hc
 have hsg := segsOf_nonneg c.ents
 obtain ⟨a0, c0, a1, c1, a2, c2, a3, c3, a4, c4, rfl, rfl, rfl, rfl, rfl⟩ := hc.sl
 refine Ctr.intro Tryz.func24 rfl rfl rfl fun E F => ?_
 by_cases k1 : c.kind = 1
 ·rw [show d.apply c = d.add c by rw [Dr.apply, if_pos k1]]
  refine jS (WL.boxA rfl rfl (fun _ => ?_))
  refine jW ?_
  refine WL.alloc rfl (fun _ => ?_)
  refine jW ?_
  refine jf rfl (jM (jB (jS (jm (jn rfl) (jm (jp 8 rfl rfl rfl) (jM (WC.block (jS (jw rfl rfl (jg rfl (jM (jF (jS (jd rfl (jm (jt 8 rfl rfl rfl) (WL.callP [1, 1, 1, 1, 1, 1, 1] rfl rfl (dAdd D d c _ _ _ _ _ _ hN hD hc0 hle hs0 hs1) rfl ?_))))))))))))))))
  rintro _ I1 _ hI1 ⟨D', bcs, rfl, ⟨e', t', u', d', q', rfl, hbk⟩, hb, rfl, hD'⟩
  have hbk0 := hbk
  obtain ⟨_, _, _, _, _, _, _, _, _, _, rfl, rfl, rfl, rfl, rfl⟩ := hbk.sl
  refine jW ?_
  refine jm (Val.extractA rfl rfl) (jm (jq rfl rfl) (WL.stA 2 rfl rfl rfl rfl ?_))
  refine jf rfl (jM (jR (WX.inRet (jU ?_))))
  exact jP [2, 2, 2, 2, 2, 2, 2] (jr2 rfl (jcL 2 rfl rfl rfl) (jtI rfl)) ⟨D', _, rfl, ⟨_, _, _, _, _, rfl, hbk0⟩, hb, rfl, hD'⟩
 by_cases k2 : c.kind = 2
 ·rw [show d.apply c = d.remove c by rw [Dr.apply, if_neg k1, if_pos k2]]
  refine jS (WL.boxA rfl rfl (fun _ => ?_))
  refine jW ?_
  refine WL.alloc rfl (fun _ => ?_)
  refine jW ?_
  refine jf rfl (jM (jB (jS (jm (jn rfl) (jm (jp 8 rfl rfl rfl) (jM (WC.block (jCf rfl rfl (jS (jw rfl rfl (jg rfl (jM (jF (jS (jd rfl (jm (jt 8 rfl rfl rfl) (WL.callP [1, 1, 1, 1, 1, 1, 1] rfl rfl (dRemove D d c _ _ _ _ _ _ hD hc0 hs0 (by omega)) rfl ?_)))))))))))))))))
  rintro _ I1 _ hI1 ⟨D', bcs, rfl, ⟨e', t', u', d', q', rfl, hbk⟩, hb, rfl, hD'⟩
  have hbk0 := hbk
  obtain ⟨_, _, _, _, _, _, _, _, _, _, rfl, rfl, rfl, rfl, rfl⟩ := hbk.sl
  refine jW ?_
  refine jm (Val.extractA rfl rfl) (jm (jq rfl rfl) (WL.stA 2 rfl rfl rfl rfl ?_))
  refine jf rfl (jM (jR (WX.inRet (jU ?_))))
  exact jP [2, 2, 2, 2, 2, 2, 2] (jr2 rfl (jcL 2 rfl rfl rfl) (jtI rfl)) ⟨D', _, rfl, ⟨_, _, _, _, _, rfl, hbk0⟩, hb, rfl, hD'⟩
 by_cases k3 : c.kind = 3
 ·rw [show d.apply c = d.move c by rw [Dr.apply, if_neg k1, if_neg k2, if_pos k3]]
  refine jS (WL.boxA rfl rfl (fun _ => ?_))
  refine jW ?_
  refine WL.alloc rfl (fun _ => ?_)
  refine jW ?_
  refine jf rfl (jM (jB (jS (jm (jn rfl) (jm (jp 8 rfl rfl rfl) (jM (WC.block (jCf rfl rfl (jCf rfl rfl (jS (jw rfl rfl (jg rfl (jM (jF (jS (jd rfl (jm (jt 8 rfl rfl rfl) (WL.callP [1, 1, 1, 1, 1, 1, 1] rfl rfl (dMove D d c _ _ _ _ _ _ hD hc0) rfl ?_))))))))))))))))))
  rintro _ I1 _ hI1 ⟨D', bcs, rfl, ⟨e', t', u', d', q', rfl, hbk⟩, hb, rfl, hD'⟩
  have hbk0 := hbk
  obtain ⟨_, _, _, _, _, _, _, _, _, _, rfl, rfl, rfl, rfl, rfl⟩ := hbk.sl
  refine jW ?_
  refine jm (Val.extractA rfl rfl) (jm (jq rfl rfl) (WL.stA 2 rfl rfl rfl rfl ?_))
  refine jf rfl (jM (jR (WX.inRet (jU ?_))))
  exact jP [2, 2, 2, 2, 2, 2, 2] (jr2 rfl (jcL 2 rfl rfl rfl) (jtI rfl)) ⟨D', _, rfl, ⟨_, _, _, _, _, rfl, hbk0⟩, hb, rfl, hD'⟩
 by_cases k4 : c.kind = 4
 ·rw [show d.apply c = d.wrap c by rw [Dr.apply, if_neg k1, if_neg k2, if_neg k3, if_pos k4]]
  refine jS (WL.boxA rfl rfl (fun _ => ?_))
  refine jW ?_
  refine WL.alloc rfl (fun _ => ?_)
  refine jW ?_
  refine jf rfl (jM (jB (jS (jm (jn rfl) (jm (jp 8 rfl rfl rfl) (jM (WC.block (jCf rfl rfl (jCf rfl rfl (jCf rfl rfl (jS (jw rfl rfl (jg rfl (jM (jF (jS (jd rfl (jm (jt 8 rfl rfl rfl) (WL.callP [1, 1, 1, 1, 1, 1, 1] rfl rfl (dWrap D d c _ _ _ _ _ _ hN hD hc0) rfl ?_)))))))))))))))))))
  rintro _ I1 _ hI1 ⟨D', bcs, rfl, ⟨e', t', u', d', q', rfl, hbk⟩, hb, rfl, hD'⟩
  have hbk0 := hbk
  obtain ⟨_, _, _, _, _, _, _, _, _, _, rfl, rfl, rfl, rfl, rfl⟩ := hbk.sl
  refine jW ?_
  refine jm (Val.extractA rfl rfl) (jm (jq rfl rfl) (WL.stA 2 rfl rfl rfl rfl ?_))
  refine jf rfl (jM (jR (WX.inRet (jU ?_))))
  exact jP [2, 2, 2, 2, 2, 2, 2] (jr2 rfl (jcL 2 rfl rfl rfl) (jtI rfl)) ⟨D', _, rfl, ⟨_, _, _, _, _, rfl, hbk0⟩, hb, rfl, hD'⟩
 by_cases k5 : c.kind = 5
 ·rw [show d.apply c = d.unwrap c by rw [Dr.apply, if_neg k1, if_neg k2, if_neg k3, if_neg k4, if_pos k5]]
  refine jS (WL.boxA rfl rfl (fun _ => ?_))
  refine jW ?_
  refine WL.alloc rfl (fun _ => ?_)
  refine jW ?_
  refine jf rfl (jM (jB (jS (jm (jn rfl) (jm (jp 8 rfl rfl rfl) (jM (WC.block (jCf rfl rfl (jCf rfl rfl (jCf rfl rfl (jCf rfl rfl (jS (jw rfl rfl (jg rfl (jM (jF (jS (jd rfl (jm (jt 8 rfl rfl rfl) (WL.callP [1, 1, 1, 1, 1, 1, 1] rfl rfl (dUnwrap D d c _ _ _ _ _ _ hD hc0) rfl ?_))))))))))))))))))))
  rintro _ I1 _ hI1 ⟨D', bcs, rfl, ⟨e', t', u', d', q', rfl, hbk⟩, hb, rfl, hD'⟩
  have hbk0 := hbk
  obtain ⟨_, _, _, _, _, _, _, _, _, _, rfl, rfl, rfl, rfl, rfl⟩ := hbk.sl
  refine jW ?_
  refine jm (Val.extractA rfl rfl) (jm (jq rfl rfl) (WL.stA 2 rfl rfl rfl rfl ?_))
  refine jf rfl (jM (jR (WX.inRet (jU ?_))))
  exact jP [2, 2, 2, 2, 2, 2, 2] (jr2 rfl (jcL 2 rfl rfl rfl) (jtI rfl)) ⟨D', _, rfl, ⟨_, _, _, _, _, rfl, hbk0⟩, hb, rfl, hD'⟩
 by_cases k6 : 6 ≤ c.kind ∧ c.kind ≤ 12
 ·rw [show d.apply c = d.set c by rw [Dr.apply, if_neg k1, if_neg k2, if_neg k3, if_neg k4, if_neg k5, if_pos k6]]
  obtain ⟨k6, k12⟩ := k6
  have hk : c.kind = 6 ∨ c.kind = 7 ∨ c.kind = 8 ∨ c.kind = 9 ∨ c.kind = 10 ∨ c.kind = 11 ∨ c.kind = 12 := by omega
  rcases hk with hk | hk | hk | hk | hk | hk | hk
  ·skip
   refine jS (WL.boxA rfl rfl (fun _ => ?_))
   refine jW ?_
   refine WL.alloc rfl (fun _ => ?_)
   refine jW ?_
   refine jf rfl (jM (jB (jS (jm (jn rfl) (jm (jp 8 rfl rfl rfl) (jM (WC.block (jCf rfl rfl (jCf rfl rfl (jCf rfl rfl (jCf rfl rfl (jCf rfl rfl (jB (jS (jw rfl rfl (jg rfl (jM (jF (jV (jA (jF (jS (jd rfl (jm (jt 8 rfl rfl rfl) (WL.callP [1, 1, 1, 1, 1, 1, 1] rfl rfl (dSet D d c _ _ _ _ _ _ hN hD hc0 (by omega) (by omega) hs0 (by omega)) rfl ?_)))))))))))))))))))))))))
   rintro _ I1 _ hI1 ⟨D', bcs, rfl, ⟨e', t', u', d', q', rfl, hbk⟩, hb, rfl, hD'⟩
   have hbk0 := hbk
   obtain ⟨_, _, _, _, _, _, _, _, _, _, rfl, rfl, rfl, rfl, rfl⟩ := hbk.sl
   refine jW ?_
   refine jm (Val.extractA rfl rfl) (jm (jq rfl rfl) (WL.stA 2 rfl rfl rfl rfl ?_))
   refine jf rfl (jM (jR (WX.inRet (jU ?_))))
   exact jP [2, 2, 2, 2, 2, 2, 2] (jr2 rfl (jcL 2 rfl rfl rfl) (jtI rfl)) ⟨D', _, rfl, ⟨_, _, _, _, _, rfl, hbk0⟩, hb, rfl, hD'⟩
  ·skip
   refine jS (WL.boxA rfl rfl (fun _ => ?_))
   refine jW ?_
   refine WL.alloc rfl (fun _ => ?_)
   refine jW ?_
   refine jf rfl (jM (jB (jS (jm (jn rfl) (jm (jp 8 rfl rfl rfl) (jM (WC.block (jCf rfl rfl (jCf rfl rfl (jCf rfl rfl (jCf rfl rfl (jCf rfl rfl (jB (jCf rfl rfl (jS (jw rfl rfl (jg rfl (jM (jF (jV (jA (jF (jS (jd rfl (jm (jt 8 rfl rfl rfl) (WL.callP [1, 1, 1, 1, 1, 1, 1] rfl rfl (dSet D d c _ _ _ _ _ _ hN hD hc0 (by omega) (by omega) hs0 (by omega)) rfl ?_))))))))))))))))))))))))))
   rintro _ I1 _ hI1 ⟨D', bcs, rfl, ⟨e', t', u', d', q', rfl, hbk⟩, hb, rfl, hD'⟩
   have hbk0 := hbk
   obtain ⟨_, _, _, _, _, _, _, _, _, _, rfl, rfl, rfl, rfl, rfl⟩ := hbk.sl
   refine jW ?_
   refine jm (Val.extractA rfl rfl) (jm (jq rfl rfl) (WL.stA 2 rfl rfl rfl rfl ?_))
   refine jf rfl (jM (jR (WX.inRet (jU ?_))))
   exact jP [2, 2, 2, 2, 2, 2, 2] (jr2 rfl (jcL 2 rfl rfl rfl) (jtI rfl)) ⟨D', _, rfl, ⟨_, _, _, _, _, rfl, hbk0⟩, hb, rfl, hD'⟩
  ·skip
   refine jS (WL.boxA rfl rfl (fun _ => ?_))
   refine jW ?_
   refine WL.alloc rfl (fun _ => ?_)
   refine jW ?_
   refine jf rfl (jM (jB (jS (jm (jn rfl) (jm (jp 8 rfl rfl rfl) (jM (WC.block (jCf rfl rfl (jCf rfl rfl (jCf rfl rfl (jCf rfl rfl (jCf rfl rfl (jB (jCf rfl rfl (jCf rfl rfl (jS (jw rfl rfl (jg rfl (jM (jF (jV (jA (jF (jS (jd rfl (jm (jt 8 rfl rfl rfl) (WL.callP [1, 1, 1, 1, 1, 1, 1] rfl rfl (dSet D d c _ _ _ _ _ _ hN hD hc0 (by omega) (by omega) hs0 (by omega)) rfl ?_)))))))))))))))))))))))))))
   rintro _ I1 _ hI1 ⟨D', bcs, rfl, ⟨e', t', u', d', q', rfl, hbk⟩, hb, rfl, hD'⟩
   have hbk0 := hbk
   obtain ⟨_, _, _, _, _, _, _, _, _, _, rfl, rfl, rfl, rfl, rfl⟩ := hbk.sl
   refine jW ?_
   refine jm (Val.extractA rfl rfl) (jm (jq rfl rfl) (WL.stA 2 rfl rfl rfl rfl ?_))
   refine jf rfl (jM (jR (WX.inRet (jU ?_))))
   exact jP [2, 2, 2, 2, 2, 2, 2] (jr2 rfl (jcL 2 rfl rfl rfl) (jtI rfl)) ⟨D', _, rfl, ⟨_, _, _, _, _, rfl, hbk0⟩, hb, rfl, hD'⟩
  ·skip
   refine jS (WL.boxA rfl rfl (fun _ => ?_))
   refine jW ?_
   refine WL.alloc rfl (fun _ => ?_)
   refine jW ?_
   refine jf rfl (jM (jB (jS (jm (jn rfl) (jm (jp 8 rfl rfl rfl) (jM (WC.block (jCf rfl rfl (jCf rfl rfl (jCf rfl rfl (jCf rfl rfl (jCf rfl rfl (jB (jCf rfl rfl (jCf rfl rfl (jCf rfl rfl (jS (jw rfl rfl (jg rfl (jM (jF (jV (jA (jF (jS (jd rfl (jm (jt 8 rfl rfl rfl) (WL.callP [1, 1, 1, 1, 1, 1, 1] rfl rfl (dSet D d c _ _ _ _ _ _ hN hD hc0 (by omega) (by omega) hs0 (by omega)) rfl ?_))))))))))))))))))))))))))))
   rintro _ I1 _ hI1 ⟨D', bcs, rfl, ⟨e', t', u', d', q', rfl, hbk⟩, hb, rfl, hD'⟩
   have hbk0 := hbk
   obtain ⟨_, _, _, _, _, _, _, _, _, _, rfl, rfl, rfl, rfl, rfl⟩ := hbk.sl
   refine jW ?_
   refine jm (Val.extractA rfl rfl) (jm (jq rfl rfl) (WL.stA 2 rfl rfl rfl rfl ?_))
   refine jf rfl (jM (jR (WX.inRet (jU ?_))))
   exact jP [2, 2, 2, 2, 2, 2, 2] (jr2 rfl (jcL 2 rfl rfl rfl) (jtI rfl)) ⟨D', _, rfl, ⟨_, _, _, _, _, rfl, hbk0⟩, hb, rfl, hD'⟩
  ·skip
   refine jS (WL.boxA rfl rfl (fun _ => ?_))
   refine jW ?_
   refine WL.alloc rfl (fun _ => ?_)
   refine jW ?_
   refine jf rfl (jM (jB (jS (jm (jn rfl) (jm (jp 8 rfl rfl rfl) (jM (WC.block (jCf rfl rfl (jCf rfl rfl (jCf rfl rfl (jCf rfl rfl (jCf rfl rfl (jB (jCf rfl rfl (jCf rfl rfl (jCf rfl rfl (jCf rfl rfl (jS (jw rfl rfl (jg rfl (jM (jF (jV (jA (jF (jS (jd rfl (jm (jt 8 rfl rfl rfl) (WL.callP [1, 1, 1, 1, 1, 1, 1] rfl rfl (dSet D d c _ _ _ _ _ _ hN hD hc0 (by omega) (by omega) hs0 (by omega)) rfl ?_)))))))))))))))))))))))))))))
   rintro _ I1 _ hI1 ⟨D', bcs, rfl, ⟨e', t', u', d', q', rfl, hbk⟩, hb, rfl, hD'⟩
   have hbk0 := hbk
   obtain ⟨_, _, _, _, _, _, _, _, _, _, rfl, rfl, rfl, rfl, rfl⟩ := hbk.sl
   refine jW ?_
   refine jm (Val.extractA rfl rfl) (jm (jq rfl rfl) (WL.stA 2 rfl rfl rfl rfl ?_))
   refine jf rfl (jM (jR (WX.inRet (jU ?_))))
   exact jP [2, 2, 2, 2, 2, 2, 2] (jr2 rfl (jcL 2 rfl rfl rfl) (jtI rfl)) ⟨D', _, rfl, ⟨_, _, _, _, _, rfl, hbk0⟩, hb, rfl, hD'⟩
  ·skip
   refine jS (WL.boxA rfl rfl (fun _ => ?_))
   refine jW ?_
   refine WL.alloc rfl (fun _ => ?_)
   refine jW ?_
   refine jf rfl (jM (jB (jS (jm (jn rfl) (jm (jp 8 rfl rfl rfl) (jM (WC.block (jCf rfl rfl (jCf rfl rfl (jCf rfl rfl (jCf rfl rfl (jCf rfl rfl (jB (jCf rfl rfl (jCf rfl rfl (jCf rfl rfl (jCf rfl rfl (jCf rfl rfl (jS (jw rfl rfl (jg rfl (jM (jF (jV (jA (jF (jS (jd rfl (jm (jt 8 rfl rfl rfl) (WL.callP [1, 1, 1, 1, 1, 1, 1] rfl rfl (dSet D d c _ _ _ _ _ _ hN hD hc0 (by omega) (by omega) hs0 (by omega)) rfl ?_))))))))))))))))))))))))))))))
   rintro _ I1 _ hI1 ⟨D', bcs, rfl, ⟨e', t', u', d', q', rfl, hbk⟩, hb, rfl, hD'⟩
   have hbk0 := hbk
   obtain ⟨_, _, _, _, _, _, _, _, _, _, rfl, rfl, rfl, rfl, rfl⟩ := hbk.sl
   refine jW ?_
   refine jm (Val.extractA rfl rfl) (jm (jq rfl rfl) (WL.stA 2 rfl rfl rfl rfl ?_))
   refine jf rfl (jM (jR (WX.inRet (jU ?_))))
   exact jP [2, 2, 2, 2, 2, 2, 2] (jr2 rfl (jcL 2 rfl rfl rfl) (jtI rfl)) ⟨D', _, rfl, ⟨_, _, _, _, _, rfl, hbk0⟩, hb, rfl, hD'⟩
  ·skip
   refine jS (WL.boxA rfl rfl (fun _ => ?_))
   refine jW ?_
   refine WL.alloc rfl (fun _ => ?_)
   refine jW ?_
   refine jf rfl (jM (jB (jS (jm (jn rfl) (jm (jp 8 rfl rfl rfl) (jM (WC.block (jCf rfl rfl (jCf rfl rfl (jCf rfl rfl (jCf rfl rfl (jCf rfl rfl (jB (jCf rfl rfl (jCf rfl rfl (jCf rfl rfl (jCf rfl rfl (jCf rfl rfl (jCf rfl rfl (jD (jw rfl rfl (jg rfl (jM (jF (jS (jd rfl (jm (jt 8 rfl rfl rfl) (WL.callP [1, 1, 1, 1, 1, 1, 1] rfl rfl (dSet D d c _ _ _ _ _ _ hN hD hc0 (by omega) (by omega) hs0 (by omega)) rfl ?_))))))))))))))))))))))))))))
   rintro _ I1 _ hI1 ⟨D', bcs, rfl, ⟨e', t', u', d', q', rfl, hbk⟩, hb, rfl, hD'⟩
   have hbk0 := hbk
   obtain ⟨_, _, _, _, _, _, _, _, _, _, rfl, rfl, rfl, rfl, rfl⟩ := hbk.sl
   refine jW ?_
   refine jm (Val.extractA rfl rfl) (jm (jq rfl rfl) (WL.stA 2 rfl rfl rfl rfl ?_))
   refine jf rfl (jM (jR (WX.inRet (jU ?_))))
   exact jP [2, 2, 2, 2, 2, 2, 2] (jr2 rfl (jcL 2 rfl rfl rfl) (jtI rfl)) ⟨D', _, rfl, ⟨_, _, _, _, _, rfl, hbk0⟩, hb, rfl, hD'⟩
 ·rw [show d.apply c = (d, Cm.z, 33) by rw [Dr.apply, if_neg k1, if_neg k2, if_neg k3, if_neg k4, if_neg k5, if_neg k6]]
  have hk : c.kind < 1 ∨ 12 < c.kind := by omega
  rcases hk with hk | hk
  ·skip
   refine jS (WL.boxA rfl rfl (fun _ => ?_))
   refine jW ?_
   refine WL.alloc rfl (fun _ => ?_)
   refine jW ?_
   refine jf rfl (jM (jB (jS (jm (jn rfl) (jm (jp 8 rfl rfl rfl) (jM (WC.block (jCf rfl rfl (jCf rfl rfl (jCf rfl rfl (jCf rfl rfl (jCf rfl rfl (jB (jCf rfl rfl (jCf rfl rfl (jCf rfl rfl (jCf rfl rfl (jCf rfl rfl (jCf rfl rfl (jD (jv rfl rfl (jg rfl (jM (jE (jV (WX.inNormal (jK (jm (Val.build0) ?_))))))))))))))))))))))))))))
   refine WL.stA 9 rfl rfl rfl rfl ?_
   refine jf rfl (jM (jR ?_))
   exact jP [0, 0, 0, 0, 0, 0, 0] (jr2 rfl (jcL 9 rfl rfl rfl) (jtI rfl)) ⟨D, _, rfl, Cm.z_rep _, rfl, rfl, hD⟩
  ·skip
   refine jS (WL.boxA rfl rfl (fun _ => ?_))
   refine jW ?_
   refine WL.alloc rfl (fun _ => ?_)
   refine jW ?_
   refine jf rfl (jM (jB (jS (jm (jn rfl) (jm (jp 8 rfl rfl rfl) (jM (WC.block (jCf rfl rfl (jCf rfl rfl (jCf rfl rfl (jCf rfl rfl (jCf rfl rfl (jB (jCf rfl rfl (jCf rfl rfl (jCf rfl rfl (jCf rfl rfl (jCf rfl rfl (jCf rfl rfl (jD (jv rfl rfl (jg rfl (jM (jE (jV (WX.inNormal (jK (jm (Val.build0) ?_))))))))))))))))))))))))))))
   refine WL.stA 9 rfl rfl rfl rfl ?_
   refine jf rfl (jM (jR ?_))
   exact jP [0, 0, 0, 0, 0, 0, 0] (jr2 rfl (jcL 9 rfl rfl rfl) (jtI rfl)) ⟨D, _, rfl, Cm.z_rep _, rfl, rfl, hD⟩
end Go.Proofs.YtggcpoleklcmkaaGreatDoor

namespace Go.Dc
open Go.Sl Go.Ls Go.Tr
end Go.Dc
namespace Go.Proofs.YtggcpoleklcmkaaGreatDoor
open Go.Sl Go.Ls Go.Tr Go.Dc
end Go.Proofs.YtggcpoleklcmkaaGreatDoor

namespace Go.Dc
open Go.Sl Go.Ls Go.Tr
end Go.Dc
namespace Go.Proofs.YtggcpoleklcmkaaGreatDoor
open Go.Sl Go.Ls Go.Tr Go.Dc
attribute [local irreducible] WC WL WX WK WA WAK Val Ctr RunRes ResIs Rd At sl box pt Exit.then Exit.inBlock bodyPost Code.wp wpList
end Go.Proofs.YtggcpoleklcmkaaGreatDoor

namespace Go.Tr
open Go.Sl Go.Ls
namespace Nd
mutual
def gs : Nd → List (Int × Bool)
 | .mk i g ks => (i, g) :: gss ks
def gss : List Nd → List (Int × Bool)
 | [] => []
 | k :: ks => gs k ++ gss ks
end
theorem gss_app : ∀ (a b : List Nd), gss (a ++ b) = gss a ++ gss b
 | [], b => by rw [gss]; rfl
 | x :: a, b => by rw [List.cons_append, gss, gss, gss_app a b, List.append_assoc]
theorem gs_eq (n : Nd) : n.gs = (n.id, n.grp) :: gss n.kids := by cases n; rw [gs]; rfl
theorem order_gs (n : Nd) : n.gs.map Prod.fst = n.order := by
 refine Nd.rec (motive_1 := fun n => n.gs.map Prod.fst = n.order) (motive_2 := fun l => (gss l).map Prod.fst = orders l) ?_ ?_ ?_ n
 ·intro i g ks h
  rw [gs, order, List.map_cons, h]
 ·rw [gss, orders]; rfl
 ·intro k ks h1 h2
  rw [gss, orders, List.map_append, h1, h2]
theorem gcount_with {q : Int} (x : Int × Bool) (ks : List Nd) (n : Nd) : ∀ p, Nd.find q n = some p → n.order.Nodup → (Nd.with_ q ks n).gs.count x + (gss p.kids).count x = n.gs.count x + (gss ks).count x := by
 refine Nd.rec (motive_1 := fun n => ∀ p, Nd.find q n = some p → n.order.Nodup → (Nd.with_ q ks n).gs.count x + (gss p.kids).count x = n.gs.count x + (gss ks).count x) (motive_2 := fun l => ∀ p, finds q l = some p → (orders l).Nodup → (gss (withs q ks l)).count x + (gss p.kids).count x = (gss l).count x + (gss ks).count x) ?_ ?_ ?_ n
 ·intro j g ks0 ih p hp ho
  rw [Nd.find] at hp
  rw [Nd.with_, gs, gs, List.count_cons, List.count_cons]
  rw [order, List.nodup_cons] at ho
  by_cases hj : j = q
  ·rw [if_pos hj] at hp; cases hp
   rw [if_pos hj]
   show _ + (gss ks0).count x = _
   omega
  ·rw [if_neg hj] at hp
   rw [if_neg hj]
   have := ih p hp ho.2
   omega
 ·intro p hp; simp [finds] at hp
 ·intro k l h1 h2 p hp ho
  rw [finds] at hp
  rw [orders, List.nodup_append] at ho
  rw [withs, gss, gss, List.count_append, List.count_append]
  cases hk : Nd.find q k with
  | some y =>
   rw [hk] at hp; cases hp
   have hq : q ∈ k.order := (find_some q k).1 (by rw [hk]; rfl)
   have h3 := h1 _ hk ho.1
   rw [withs_none q _ l fun hl => ho.2.2 q hq q hl rfl]
   omega
  | none =>
   rw [hk] at hp
   have hn : q ∉ k.order := fun hm => by
    have := (find_some q k).2 hm
    rw [hk] at this; cases this
   have h3 := h2 _ hp ho.2.1
   rw [with_none q _ k hn]
   omega
theorem gcount_td (x : Int × Bool) (l : List Nd) (k : Nat) : (gss (l.take k)).count x + (gss (l.drop k)).count x = (gss l).count x := by
 rw [← List.count_append, ← gss_app, List.take_append_drop]
theorem gcount_rem (x : Int × Bool) {l : List Nd} {k : Nat} (hk : k < l.length) : (gss (l.take k ++ l.drop (k + 1))).count x + (l[k]).gs.count x = (gss l).count x := by
 have h1 := gcount_td x l k
 rw [drop_eq hk, gss, List.count_append] at h1
 rw [gss_app, List.count_append]; omega
theorem gcount_add {top n : Nd} {p ix : Int} (ho : top.order.Nodup) (h : (Nd.add top p ix n).2 = 0) (x : Int × Bool) : (Nd.add top p ix n).1.gs.count x = top.gs.count x + n.gs.count x := by
 rw [Nd.add] at h ⊢
 split at h
 ·exact absurd h (by show ¬ (31 : Int) = 0; decide)
 ·rename_i m hm
  split at h
  ·exact absurd h (by show ¬ (33 : Int) = 0; decide)
  ·rename_i hg
   rw [if_neg hg]
   split at h
   ·exact absurd h (by show ¬ (30 : Int) = 0; decide)
   ·rename_i hx
    rw [if_neg hx]
    split at h
    ·rename_i hf
     exact absurd h hf
    ·rename_i hf
     rw [if_neg hf]
     have h1 := gcount_with x (m.kids.take ix.toNat ++ n :: m.kids.drop ix.toNat) top m hm ho
     have h2 := gcount_td x m.kids ix.toNat
     rw [gss_app, gss, List.count_append, List.count_append] at h1
     simp only
     omega
end Nd
section
variable {A : Ar} {top : Nd}
open Nd
theorem Abs.gcount_rem (hA : Abs A top) {i : Int} (h : (Nd.remove top i).2.2.2.2 = 0) (x : Int × Bool) : (Nd.remove top i).1.gs.count x + (Nd.remove top i).2.1.gs.count x = top.gs.count x := by
 rcases hA.rem i with ⟨h0, _⟩ | ⟨p, k, hk, _, _, _, _, hf, e, _⟩
 ·exact absurd h h0
 ·rw [e]
  have h1 := gcount_with x (p.kids.take k ++ p.kids.drop (k + 1)) top p hf hA.od
  have h2 := Nd.gcount_rem x hk
  simp only
  omega
theorem Abs.gcount_move (hA : Abs A top) {i p ix : Int} (h : (Nd.move top i p ix).2 = 0) (x : Int × Bool) : (Nd.move top i p ix).1.gs.count x = top.gs.count x := by
 rw [Nd.move] at h ⊢
 split at h
 ·rename_i h0; exact absurd h h0
 ·rename_i h0
  rw [if_neg h0]
  have h0' := Decidable.of_not_not h0
  have hc := hA.count_rem h0'
  have hcg := hA.gcount_rem h0'
  obtain ⟨o1, o2, _⟩ := hA.rem_nodup h0'
  split at h
  ·exact absurd h (by show ¬ (31 : Int) = 0; decide)
  ·rename_i m hm
   split at h
   ·exact absurd h (by show ¬ (33 : Int) = 0; decide)
   ·rename_i hg
    rw [if_neg hg]
    split at h
    ·exact absurd h (by show ¬ (34 : Int) = 0; decide)
    ·rename_i hcy
     rw [if_neg hcy]
     have hp1 := count_find (i := p) (n := top).1 (by rw [hm]; rfl)
     have hp2 : ¬ 0 < (Nd.remove top i).2.1.order.count p := fun hh => hcy (count_find.2 hh)
     have hp3 := hc p
     obtain ⟨m', hm'⟩ := Option.isSome_iff_exists.1 (count_find.2 (show 0 < (Nd.remove top i).1.order.count p by omega))
     rw [hm'] at h ⊢
     simp only [Option.getD_some] at h ⊢
     split at h
     ·exact absurd h (by show ¬ (30 : Int) = 0; decide)
     ·rename_i hix
      rw [if_neg hix]
      split at h
      ·exact absurd h (by show ¬ (35 : Int) = 0; decide)
      ·rename_i hd
       rw [if_neg hd]
       have h1 := gcount_with x (m'.kids.take ix.toNat ++ (Nd.remove top i).2.1 :: m'.kids.drop ix.toNat) (Nd.remove top i).1 m' hm' o1
       have h2 := gcount_td x m'.kids ix.toNat
       rw [gss_app, gss, List.count_append, List.count_append] at h1
       have := hcg x
       simp only
       omega
theorem Nd.gcount_wrap (ho : top.order.Nodup) {i p ix c : Int} (h : (Nd.wrap top i p ix c).2 = 0) (x : Int × Bool) : (Nd.wrap top i p ix c).1.gs.count x = top.gs.count x + (if (i, true) = x then 1 else 0) := by
 rw [Nd.wrap] at h ⊢
 split at h
 ·exact absurd h (by show ¬ (31 : Int) = 0; decide)
 ·rename_i m hm
  split at h
  ·exact absurd h (by show ¬ (33 : Int) = 0; decide)
  ·rename_i hg
   rw [if_neg hg]
   split at h
   ·exact absurd h (by show ¬ (30 : Int) = 0; decide)
   ·rename_i hx
    rw [if_neg hx]
    split at h
    ·rename_i hf
     exact absurd h hf
    ·rename_i hf
     rw [if_neg hf]
     split at h
     ·exact absurd h (by show ¬ (35 : Int) = 0; decide)
     ·rename_i hd
      rw [if_neg hd]
      have h1 := gcount_with x (m.kids.take ix.toNat ++ (mk i true ((m.kids.drop ix.toNat).take c.toNat) :: m.kids.drop (ix.toNat + c.toNat))) top m hm ho
      have h2 := gcount_td x m.kids ix.toNat
      have h3 := gcount_td x (m.kids.drop ix.toNat) c.toNat
      rw [List.drop_drop] at h3
      rw [gss_app, gss, gs, List.count_append, List.count_append, List.count_cons] at h1
      simp only [beq_iff_eq] at h1
      simp only
      omega
theorem Abs.gcount_unwrap (hA : Abs A top) {i : Int} (h : (Nd.unwrap top i).2.2.2.2 = 0) (x : Int × Bool) : (Nd.unwrap top i).1.gs.count x + (if (i, true) = x then 1 else 0) = top.gs.count x := by
 rw [Nd.unwrap] at h ⊢
 split at h
 ·rename_i h0; exact absurd h h0
 ·rename_i h0
  rw [if_neg h0]
  split at h
  ·exact absurd h (by show ¬ (33 : Int) = 0; decide)
  ·rename_i hg
   rw [if_neg hg]
   rcases hA.rem i with ⟨h1, _⟩ | ⟨p, k, hk, _, hid, _, _, hf, e, _⟩
   ·exact absurd (Decidable.of_not_not h0) h1
   ·have hgt : (p.kids[k]).grp = true := by
     rw [e] at hg
     cases hh : (p.kids[k]).grp with
     | true => rfl
     | false => exact absurd hh hg
    rw [e]
    simp only [hf, Option.getD_some, Int.toNat_natCast]
    have h1 := gcount_with x (p.kids.take k ++ ((p.kids[k]).kids ++ p.kids.drop (k + 1))) top p hf hA.od
    have h2 := Nd.gcount_rem x hk
    have h3 : (p.kids[k]).gs.count x = (gss (p.kids[k]).kids).count x + (if (i, true) = x then 1 else 0) := by
     rw [gs_eq, List.count_cons, hid, hgt]
     simp only [beq_iff_eq]
    rw [gss_app, gss_app, List.count_append, List.count_append] at h1
    rw [gss_app, List.count_append] at h2
    omega
end
end Go.Tr

namespace Go.Dc
open Go.Sl Go.Ls Go.Tr
theorem checked_ok {l : List Sg} (h : (checked l).2 = 0) : pathCheck l = 0 ∧ checked l = (l, 0) := by
 rw [checked] at h ⊢
 split at h
 ·rename_i h1; exact absurd h h1
 ·rename_i h1
  exact ⟨Decidable.of_not_not h1, if_neg h1⟩
theorem checked_of {l : List Sg} (h : pathCheck l = 0) : checked l = (l, 0) := by rw [checked, if_neg (fun e => e h)]
theorem insert_ok {l : List Sg} {i : Int} {s : Sg} (h : (pathInsert l i s).2 = 0) : 0 ≤ i ∧ i ≤ l.length ∧ pathInsert l i s = (l.take i.toNat ++ s :: l.drop i.toNat, 0) ∧ pathCheck (l.take i.toNat ++ s :: l.drop i.toNat) = 0 := by
 rw [pathInsert] at h ⊢
 split at h
 ·rename_i h1; exact absurd h h1
 ·rename_i h1
  rw [if_neg h1]
  split at h
  ·exact absurd h (by show ¬ (30 : Int) = 0; decide)
  ·rename_i h2
   rw [if_neg h2]
   obtain ⟨h3, h4⟩ := checked_ok h
   exact ⟨by omega, by omega, h4, h3⟩
theorem delete_ok {l : List Sg} {i : Int} (h : (pathDelete l i).2 = 0) : atSeg l i = 0 ∧ pathDelete l i = (l.take i.toNat ++ l.drop (i.toNat + 1), 0) ∧ pathCheck (l.take i.toNat ++ l.drop (i.toNat + 1)) = 0 := by
 rw [pathDelete] at h ⊢
 split at h
 ·rename_i h1; exact absurd h h1
 ·rename_i h1
  rw [if_neg h1]
  obtain ⟨h3, h4⟩ := checked_ok h
  exact ⟨Decidable.of_not_not h1, h4, h3⟩
theorem put_ok {l : List Sg} {i k : Int} {p : Pt} (h : (pathPut l i k p).2 = 0) : atSeg l i = 0 ∧ 0 ≤ k ∧ k < need (sgAt l i).kind ∧ pathPut l i k p = (l.set i.toNat ((sgAt l i).setPoint k.toNat p), 0) ∧ pathCheck (l.set i.toNat ((sgAt l i).setPoint k.toNat p)) = 0 := by
 rw [pathPut] at h ⊢
 split at h
 ·rename_i h1; exact absurd h h1
 ·rename_i h1
  rw [if_neg h1]
  split at h
  ·exact absurd h (by show ¬ (30 : Int) = 0; decide)
  ·rename_i h2
   rw [if_neg h2]
   obtain ⟨h3, h4⟩ := checked_ok h
   exact ⟨Decidable.of_not_not h1, by omega, by omega, h4, h3⟩
theorem split_ok {l : List Sg} {i : Int} (h : (pathSplit l i).2 = 0) : atSeg l i = 0 ∧ (sgAt l i).kind ≠ 1 ∧ (sgAt l i).kind ≠ 5 ∧ l.length ≠ 4096 ∧
  (pathSplit l i).1 = l.take i.toNat ++ ((sgAt l i).parts ((sgAt l (i - 1)).point (need (sgAt l (i - 1)).kind - 1))).1 :: ((sgAt l i).parts ((sgAt l (i - 1)).point (need (sgAt l (i - 1)).kind - 1))).2 :: l.drop (i.toNat + 1) := by
 rw [pathSplit] at h ⊢
 split at h
 ·rename_i h1; exact absurd h h1
 ·rename_i h1
  rw [if_neg h1]
  split at h
  ·exact absurd h (by show ¬ (33 : Int) = 0; decide)
  ·rename_i h2
   rw [if_neg h2]
   split at h
   ·exact absurd h (by show ¬ (36 : Int) = 0; decide)
   ·rename_i h3
    rw [if_neg h3]
    exact ⟨Decidable.of_not_not h1, fun e => h2 (.inl e), fun e => h2 (.inr e), h3, rfl⟩
def openAft (o : Bool) : List Sg → Bool
 | [] => o
 | s :: r => openAft (decide (s.kind ≠ 5)) r
theorem pathGo_app : ∀ (a b : List Sg) (o : Bool), pathGo o (a ++ b) = if pathGo o a ≠ 0 then pathGo o a else pathGo (openAft o a) b
 | [], b, o => by simp [pathGo, openAft]
 | s :: a, b, o => by
  rw [List.cons_append, pathGo, pathGo, openAft]
  by_cases h : s.check o ≠ 0
  ·rw [if_pos h, if_pos h, if_pos h]
  ·rw [if_neg h, if_neg h, pathGo_app a b]
theorem pathGo_app0 {a b : List Sg} {o : Bool} : pathGo o (a ++ b) = 0 ↔ pathGo o a = 0 ∧ pathGo (openAft o a) b = 0 := by
 rw [pathGo_app]
 constructor
 ·intro h
  split at h
  ·rename_i h1; exact absurd h h1
  ·rename_i h1; exact ⟨Decidable.of_not_not h1, h⟩
 ·rintro ⟨h1, h2⟩
  rw [if_neg (fun e => e h1), h2]
theorem pathGo_cons0 {s : Sg} {r : List Sg} {o : Bool} : pathGo o (s :: r) = 0 ↔ s.check o = 0 ∧ pathGo (decide (s.kind ≠ 5)) r = 0 := by
 rw [pathGo]
 constructor
 ·intro h
  split at h
  ·rename_i h1; exact absurd h h1
  ·rename_i h1; exact ⟨Decidable.of_not_not h1, h⟩
 ·rintro ⟨h1, h2⟩
  rw [if_neg (fun e => e h1), h2]
theorem pathCheck_iff {l : List Sg} : pathCheck l = 0 ↔ l.length ≤ 4096 ∧ pathGo false l = 0 := by
 rw [pathCheck]
 constructor
 ·intro h
  split at h
  ·exact absurd h (by decide)
  ·exact ⟨by omega, h⟩
 ·rintro ⟨h1, h2⟩
  rw [if_neg (by omega), h2]
theorem seg_check {s : Sg} (hk : s.kind = 2 ∨ s.kind = 3 ∨ s.kind = 4) : s.check true = 0 ↔ (s.kind = 2 → s.p1 = Pt.z) ∧ (s.kind ≠ 4 → s.p2 = Pt.z) ∧ s.p0.inn ∧ (s.kind ≠ 2 → s.p1.inn) ∧ (s.kind = 4 → s.p2.inn) := by
 obtain ⟨k, p0, p1, p2⟩ := s
 simp only at hk
 rw [Sg.check]
 have e1 : ∀ (P : Prop) [Decidable P] (a b : Int), a ≠ 0 → ((if P then a else b) = 0 ↔ ¬ P ∧ b = 0) := fun P _ a b h => by
  constructor
  ·intro e
   split at e
   ·exact absurd e h
   ·rename_i q; exact ⟨q, e⟩
  ·rintro ⟨q, e⟩
   rw [if_neg q, e]
 rw [e1 _ _ _ (by decide), e1 _ _ _ (by decide), e1 _ _ _ (by decide)]
 rcases hk with rfl | rfl | rfl
 all_goals simp [need, not_or]
 all_goals first | done | constructor
 all_goals first | done | (intro h; simp_all) | skip
theorem parts_check {f : Pt} {x : Sg} (hx : x.check true = 0) (hf : f.inn) (hk : x.kind = 2 ∨ x.kind = 3 ∨ x.kind = 4) : (x.parts f).1.check true = 0 ∧ (x.parts f).2.check true = 0 ∧ (x.parts f).1.kind = x.kind ∧ (x.parts f).2.kind = x.kind := by
 have n24 : ¬ (2 : Int) = 4 := by decide
 have n32 : ¬ (3 : Int) = 2 := by decide
 have n34 : ¬ (3 : Int) = 4 := by decide
 have n42 : ¬ (4 : Int) = 2 := by decide
 have n43 : ¬ (4 : Int) = 3 := by decide
 obtain ⟨k, p0, p1, p2⟩ := x
 have h := (seg_check hk).1 hx
 obtain ⟨h1, h2, h3, h4, h5⟩ := h
 simp only at hk h1 h2 h3 h4 h5
 rw [Sg.parts]
 rcases hk with rfl | rfl | rfl
 ·rw [if_pos rfl]
  refine ⟨(seg_check (.inl rfl)).2 ⟨h1, h2, mid_inn hf h3, fun e => absurd rfl e, fun e => absurd e n24⟩, hx, rfl, rfl⟩
 ·have h4 := h4 (by decide)
  rw [if_neg n32, if_pos rfl]
  exact ⟨(seg_check (.inr (.inl rfl))).2 ⟨fun e => absurd e n32, h2, mid_inn hf h3, fun _ => mid_inn (mid_inn hf h3) (mid_inn h3 h4), fun e => absurd e n34⟩,
   (seg_check (.inr (.inl rfl))).2 ⟨fun e => absurd e n32, h2, mid_inn h3 h4, fun _ => h4, fun e => absurd e n34⟩, rfl, rfl⟩
 ·have h4 := h4 (by decide)
  have h5 := h5 rfl
  rw [if_neg n42, if_neg n43]
  exact ⟨(seg_check (.inr (.inr rfl))).2 ⟨fun e => absurd e n42, fun e => absurd rfl e, mid_inn hf h3, fun _ => mid_inn (mid_inn hf h3) (mid_inn h3 h4), fun _ => mid_inn (mid_inn (mid_inn hf h3) (mid_inn h3 h4)) (mid_inn (mid_inn h3 h4) (mid_inn h4 h5))⟩,
   (seg_check (.inr (.inr rfl))).2 ⟨fun e => absurd e n42, fun e => absurd rfl e, mid_inn (mid_inn h3 h4) (mid_inn h4 h5), fun _ => mid_inn h4 h5, fun _ => h5⟩, rfl, rfl⟩
theorem split_right {l : List Sg} {i : Int} (h : (pathSplit l i).2 = 0) : pathCheck (pathSplit l i).1 = 0 := by
 obtain ⟨h1, h2, h3, h4, h5⟩ := split_ok h
 obtain ⟨c0, i0, il, l4⟩ := atSeg_ok h1
 obtain ⟨j, rfl⟩ : ∃ j : Nat, i = j := ⟨i.toNat, by omega⟩
 have hj : j < l.length := by omega
 rw [sgAt_nat hj] at h2 h3 h5
 obtain ⟨j0, f1, f2, f3, _⟩ := split_facts c0 hj h2 h3
 have hjm : ((j : Int) - 1) = ((j - 1 : Nat) : Int) := by omega
 rw [hjm, sgAt_nat (by omega)] at h5
 rw [h5]
 simp only [Int.toNat_natCast]
 obtain ⟨cl, cg⟩ := pathCheck_iff.1 c0
 have hsp : l = l.take j ++ l[j] :: l.drop (j + 1) := by rw [← List.drop_eq_getElem_cons hj, List.take_append_drop]
 rw [hsp] at cg
 obtain ⟨g1, g2⟩ := pathGo_app0.1 cg
 obtain ⟨g3, g4⟩ := pathGo_cons0.1 g2
 have ho := (seg_facts g3).2.2.1 h2
 rw [ho] at g3
 obtain ⟨p1, p2, p3, p4⟩ := parts_check g3 f2 f3
 have hk5 : ∀ {y : Sg}, y.kind = (l[j]).kind → decide (y.kind ≠ 5) = true := fun e => decide_eq_true (by rw [e]; exact h3)
 refine pathCheck_iff.2 ⟨?_, pathGo_app0.2 ⟨g1, pathGo_cons0.2 ⟨by rw [ho]; exact p1, pathGo_cons0.2 ⟨by rw [hk5 p3]; exact p2, ?_⟩⟩⟩⟩
 ·simp only [List.length_append, List.length_cons, List.length_take, List.length_drop]; omega
 ·rw [p4]; exact g4
theorem Atr.check_iff {a : Atr} {g : Bool} : a.check g = 0 ↔ a.mtx.right ∧ a.sty.check = 0 ∧ pathCheck a.path = 0 ∧ (g = true → a.path.length = 0) := by
 constructor
 ·intro h
  obtain ⟨h1, h2, h3⟩ := Atr.check_ok h
  refine ⟨h1, h2, h3, fun e => ?_⟩
  rw [Atr.check, if_neg (fun e => e h1), if_neg (fun e => e h2), if_neg (fun e => e h3)] at h
  split at h
  ·exact absurd h (by decide)
  ·rename_i h4
   rcases Nat.eq_zero_or_pos a.path.length with h5 | h5
   ·exact h5
   ·exact absurd ⟨e, h5⟩ h4
 ·rintro ⟨h1, h2, h3, h4⟩
  rw [Atr.check, if_neg (fun e => e h1), if_neg (fun e => e h2), if_neg (fun e => e h3), if_neg]
  rintro ⟨e, h5⟩
  have := h4 e
  omega
theorem change_right {a : Atr} {c : Cm} {g : Bool} (ha : a.check g = 0) (hg : 8 ≤ c.kind → g = false) (h : (change a c).2.2 = 0) (h6 : 6 ≤ c.kind) : (change a c).1.check g = 0 := by
 obtain ⟨h1, h2, h3, h4⟩ := Atr.check_iff.1 ha
 rw [change] at h ⊢
 by_cases k : c.kind = 6
 ·rw [if_pos k] at h ⊢
  have hm : c.atr.mtx.right := by
   simp only at h
   split at h
   ·assumption
   ·exact absurd h (by decide)
  exact Atr.check_iff.2 ⟨hm, h2, h3, h4⟩
 rw [if_neg k] at h ⊢
 by_cases k : c.kind = 7
 ·rw [if_pos k] at h ⊢
  exact Atr.check_iff.2 ⟨h1, h, h3, h4⟩
 rw [if_neg k] at h ⊢
 have hg := hg (by omega)
 subst hg
 by_cases k : c.kind = 8
 ·rw [if_pos k] at h ⊢
  exact Atr.check_iff.2 ⟨h1, h2, h, fun e => by cases e⟩
 rw [if_neg k] at h ⊢
 by_cases k : c.kind = 9
 ·rw [if_pos k] at h ⊢
  obtain ⟨_, _, e, hp⟩ := insert_ok h
  refine Atr.check_iff.2 ⟨h1, h2, ?_, fun e => by cases e⟩
  show pathCheck (pathInsert a.path c.i c.seg).1 = 0
  rw [e]; exact hp
 rw [if_neg k] at h ⊢
 by_cases k : c.kind = 10
 ·rw [if_pos k] at h ⊢
  obtain ⟨_, e, hp⟩ := delete_ok h
  refine Atr.check_iff.2 ⟨h1, h2, ?_, fun e => by cases e⟩
  show pathCheck (pathDelete a.path c.i).1 = 0
  rw [e]; exact hp
 rw [if_neg k] at h ⊢
 by_cases k : c.kind = 11
 ·rw [if_pos k] at h ⊢
  obtain ⟨_, _, _, e, hp⟩ := put_ok h
  refine Atr.check_iff.2 ⟨h1, h2, ?_, fun e => by cases e⟩
  show pathCheck (pathPut a.path c.i c.k c.point).1 = 0
  rw [e]; exact hp
 rw [if_neg k] at h ⊢
 exact Atr.check_iff.2 ⟨h1, h2, split_right h, fun e => by cases e⟩
theorem setPoint_kind (s : Sg) (k : Nat) (p : Pt) : (s.setPoint k p).kind = s.kind := by
 rw [Sg.setPoint]
 split
 ·rfl
 ·split <;> rfl
theorem setPoint_back (s : Sg) (k : Nat) (p : Pt) : (s.setPoint k p).setPoint k (s.point k) = s := by
 rw [Sg.setPoint, Sg.setPoint, Sg.point]
 by_cases h0 : k = 0
 ·rw [if_pos h0, if_pos h0, if_pos h0]
 ·rw [if_neg h0, if_neg h0, if_neg h0]
  by_cases h1 : k = 1
  ·rw [if_pos h1, if_pos h1, if_pos h1]
  ·rw [if_neg h1, if_neg h1, if_neg h1]
theorem sgAt_set {l : List Sg} {j : Nat} (h : j < l.length) (x : Sg) : sgAt (l.set j x) j = x := by
 rw [sgAt_nat (by rw [List.length_set]; exact h)]
 simp
theorem change_back {a : Atr} {c : Cm} {g : Bool} (ha : a.check g = 0) (h6 : 6 ≤ c.kind) (h12 : c.kind ≤ 12) (h : (change a c).2.2 = 0) (i : Int) :
  (change (change a c).1 { (change a c).2.1 with id := i }).1 = a ∧ (change (change a c).1 { (change a c).2.1 with id := i }).2.2 = 0 ∧ 6 ≤ (change a c).2.1.kind ∧ (change a c).2.1.kind ≤ 12 ∧ (8 ≤ (change a c).2.1.kind → 8 ≤ c.kind) := by
 obtain ⟨h1, h2, h3, h4⟩ := Atr.check_iff.1 ha
 have hc : ∀ {q : Atr × Cm × Int}, change a c = q → (change q.1 { q.2.1 with id := i }).1 = a ∧ (change q.1 { q.2.1 with id := i }).2.2 = 0 ∧ 6 ≤ q.2.1.kind ∧ q.2.1.kind ≤ 12 ∧ (8 ≤ q.2.1.kind → 8 ≤ c.kind) → (change (change a c).1 { (change a c).2.1 with id := i }).1 = a ∧ (change (change a c).1 { (change a c).2.1 with id := i }).2.2 = 0 ∧ 6 ≤ (change a c).2.1.kind ∧ (change a c).2.1.kind ≤ 12 ∧ (8 ≤ (change a c).2.1.kind → 8 ≤ c.kind) := by
  rintro q rfl h
  exact h
 by_cases k6 : c.kind = 6
 ·refine hc (by rw [change, if_pos k6]) ?_
  refine ⟨?_, ?_, (show (6 : Int) ≤ 6 by decide), (show (6 : Int) ≤ 12 by decide), fun h => absurd h (by show ¬ (8 : Int) ≤ 6; decide)⟩
  ·rw [change, if_pos rfl]
  ·rw [change, if_pos rfl]
   show (if a.mtx.right then (0 : Int) else 10) = 0
   rw [if_pos h1]
 by_cases k7 : c.kind = 7
 ·refine hc (by rw [change, if_neg k6, if_pos k7]) ?_
  refine ⟨?_, ?_, (show (6 : Int) ≤ 7 by decide), (show (7 : Int) ≤ 12 by decide), fun h => absurd h (by show ¬ (8 : Int) ≤ 7; decide)⟩
  ·rw [change, if_neg (by show ¬ (7 : Int) = 6; decide), if_pos rfl]
  ·rw [change, if_neg (by show ¬ (7 : Int) = 6; decide), if_pos rfl]; exact h2
 by_cases k8 : c.kind = 8
 ·refine hc (by rw [change, if_neg k6, if_neg k7, if_pos k8]) ?_
  refine ⟨?_, ?_, (show (6 : Int) ≤ 8 by decide), (show (8 : Int) ≤ 12 by decide), fun h => by omega⟩
  ·rw [change, if_neg (by show ¬ (8 : Int) = 6; decide), if_neg (by show ¬ (8 : Int) = 7; decide), if_pos rfl]
  ·rw [change, if_neg (by show ¬ (8 : Int) = 6; decide), if_neg (by show ¬ (8 : Int) = 7; decide), if_pos rfl]; exact h3
 by_cases k9 : c.kind = 9
 ·have hq : change a c = ({ a with path := (pathInsert a.path c.i c.seg).1 }, { Cm.z with kind := 10, i := c.i }, (pathInsert a.path c.i c.seg).2) := by rw [change, if_neg k6, if_neg k7, if_neg k8, if_pos k9]
  have hh := h
  rw [hq] at hh
  obtain ⟨i0, il, e, hp⟩ := insert_ok hh
  refine hc hq ?_
  rw [e]
  obtain ⟨j, hj⟩ : ∃ j : Nat, c.i = j := ⟨c.i.toNat, by omega⟩
  have hjl : j ≤ a.path.length := by omega
  rw [hj, Int.toNat_natCast] at hp
  have ht : (a.path.take j ++ c.seg :: a.path.drop j).take j ++ (a.path.take j ++ c.seg :: a.path.drop j).drop (j + 1) = a.path := by
   rw [ins_take _ hjl, ins_drop _ 1 hjl, List.drop_one, List.tail_cons, List.take_append_drop]
  have hlen : (a.path.take j ++ c.seg :: a.path.drop j).length = a.path.length + 1 := by
   simp only [List.length_append, List.length_cons, List.length_take, List.length_drop]; omega
  have hd : pathDelete (a.path.take j ++ c.seg :: a.path.drop j) j = (a.path, 0) := by
   rw [pathDelete, if_neg, Int.toNat_natCast, ht, checked_of h3]
   intro hne
   refine hne ?_
   rw [atSeg, if_neg (fun e => e hp), if_neg (by rw [hlen]; omega)]
  refine ⟨?_, ?_, (show (6 : Int) ≤ 10 by decide), (show (10 : Int) ≤ 12 by decide), fun h => by omega⟩
  ·rw [change, if_neg (by show ¬ (10 : Int) = 6; decide), if_neg (by show ¬ (10 : Int) = 7; decide), if_neg (by show ¬ (10 : Int) = 8; decide), if_neg (by show ¬ (10 : Int) = 9; decide), if_pos rfl]
   simp only [hj, Int.toNat_natCast, hd]
  ·rw [change, if_neg (by show ¬ (10 : Int) = 6; decide), if_neg (by show ¬ (10 : Int) = 7; decide), if_neg (by show ¬ (10 : Int) = 8; decide), if_neg (by show ¬ (10 : Int) = 9; decide), if_pos rfl]
   simp only [hj, Int.toNat_natCast, hd]
 by_cases k10 : c.kind = 10
 ·have hq : change a c = ({ a with path := (pathDelete a.path c.i).1 }, { Cm.z with kind := 9, i := c.i, seg := if (pathDelete a.path c.i).2 = 0 then sgAt a.path c.i else Sg.z }, (pathDelete a.path c.i).2) := by rw [change, if_neg k6, if_neg k7, if_neg k8, if_neg k9, if_pos k10]
  have hh := h
  rw [hq] at hh
  obtain ⟨ha0, e, hp⟩ := delete_ok hh
  obtain ⟨_, i0, il, _⟩ := atSeg_ok ha0
  refine hc hq ?_
  rw [e]
  obtain ⟨j, hj⟩ : ∃ j : Nat, c.i = j := ⟨c.i.toNat, by omega⟩
  have hjl : j < a.path.length := by omega
  rw [hj, Int.toNat_natCast] at hp
  have hlen : (a.path.take j ++ a.path.drop (j + 1)).length = a.path.length - 1 := by
   simp only [List.length_append, List.length_cons, List.length_take, List.length_drop]; omega
  have ht : (a.path.take j ++ a.path.drop (j + 1)).take j ++ sgAt a.path j :: (a.path.take j ++ a.path.drop (j + 1)).drop j = a.path := by
   have h1 := ins_take (l := a.path) (k := j) (a.path.drop (j + 1)) (by omega)
   have h2 := ins_drop (l := a.path) (k := j) (a.path.drop (j + 1)) 0 (by omega)
   rw [Nat.add_zero] at h2
   rw [h1, h2, sgAt_nat hjl, List.drop_zero, ← List.drop_eq_getElem_cons hjl, List.take_append_drop]
  have hd : pathInsert (a.path.take j ++ a.path.drop (j + 1)) j (sgAt a.path j) = (a.path, 0) := by
   rw [pathInsert, if_neg (fun e => e hp), if_neg (by rw [hlen]; omega), Int.toNat_natCast, ht, checked_of h3]
  refine ⟨?_, ?_, (show (6 : Int) ≤ 9 by decide), (show (9 : Int) ≤ 12 by decide), fun h => by omega⟩
  ·rw [change, if_neg (by show ¬ (9 : Int) = 6; decide), if_neg (by show ¬ (9 : Int) = 7; decide), if_neg (by show ¬ (9 : Int) = 8; decide), if_pos rfl]
   simp only [hj, Int.toNat_natCast, if_pos, hd]
  ·rw [change, if_neg (by show ¬ (9 : Int) = 6; decide), if_neg (by show ¬ (9 : Int) = 7; decide), if_neg (by show ¬ (9 : Int) = 8; decide), if_pos rfl]
   simp only [hj, Int.toNat_natCast, if_pos, hd]
 by_cases k11 : c.kind = 11
 ·have hq : change a c = ({ a with path := (pathPut a.path c.i c.k c.point).1 }, { Cm.z with kind := 11, i := c.i, k := c.k, point := if (pathPut a.path c.i c.k c.point).2 = 0 then (sgAt a.path c.i).point c.k.toNat else Pt.z }, (pathPut a.path c.i c.k c.point).2) := by rw [change, if_neg k6, if_neg k7, if_neg k8, if_neg k9, if_neg k10, if_pos k11]
  have hh := h
  rw [hq] at hh
  obtain ⟨ha0, k0, kn, e, hp⟩ := put_ok hh
  obtain ⟨_, i0, il, _⟩ := atSeg_ok ha0
  refine hc hq ?_
  rw [e]
  obtain ⟨j, hj⟩ : ∃ j : Nat, c.i = j := ⟨c.i.toNat, by omega⟩
  have hjl : j < a.path.length := by omega
  rw [hj, Int.toNat_natCast] at hp
  rw [hj] at kn
  have hd : pathPut (a.path.set j ((sgAt a.path j).setPoint c.k.toNat c.point)) j c.k ((sgAt a.path j).point c.k.toNat) = (a.path, 0) := by
   rw [pathPut, if_neg, sgAt_set hjl, setPoint_kind, if_neg (by omega), Int.toNat_natCast, setPoint_back, List.set_set, sgAt_nat hjl, List.set_getElem_self, checked_of h3]
   intro hne
   refine hne ?_
   rw [atSeg, if_neg (fun e => e hp), if_neg (by rw [List.length_set]; omega)]
  refine ⟨?_, ?_, (show (6 : Int) ≤ 11 by decide), (show (11 : Int) ≤ 12 by decide), fun h => by omega⟩
  ·rw [change, if_neg (by show ¬ (11 : Int) = 6; decide), if_neg (by show ¬ (11 : Int) = 7; decide), if_neg (by show ¬ (11 : Int) = 8; decide), if_neg (by show ¬ (11 : Int) = 9; decide), if_neg (by show ¬ (11 : Int) = 10; decide), if_pos rfl]
   simp only [hj, Int.toNat_natCast, if_pos, hd]
  ·rw [change, if_neg (by show ¬ (11 : Int) = 6; decide), if_neg (by show ¬ (11 : Int) = 7; decide), if_neg (by show ¬ (11 : Int) = 8; decide), if_neg (by show ¬ (11 : Int) = 9; decide), if_neg (by show ¬ (11 : Int) = 10; decide), if_pos rfl]
   simp only [hj, Int.toNat_natCast, if_pos, hd]
 ·have hq : change a c = ({ a with path := (pathSplit a.path c.i).1 }, { Cm.z with kind := 8, atr := { Atr.z with path := a.path } }, (pathSplit a.path c.i).2) := by rw [change, if_neg k6, if_neg k7, if_neg k8, if_neg k9, if_neg k10, if_neg k11]
  refine hc hq ?_
  refine ⟨?_, ?_, (show (6 : Int) ≤ 8 by decide), (show (8 : Int) ≤ 12 by decide), fun h => by omega⟩
  ·rw [change, if_neg (by show ¬ (8 : Int) = 6; decide), if_neg (by show ¬ (8 : Int) = 7; decide), if_pos rfl]
  ·rw [change, if_neg (by show ¬ (8 : Int) = 6; decide), if_neg (by show ¬ (8 : Int) = 7; decide), if_pos rfl]; exact h3
end Go.Dc

namespace Go.Dc
open Go.Sl Go.Ls Go.Tr
end Go.Dc
namespace Go.Proofs.YtggcpoleklcmkaaGreatDoor
open Go.Sl Go.Ls Go.Tr Go.Dc
end Go.Proofs.YtggcpoleklcmkaaGreatDoor

namespace Go.Dc
open Go.Sl Go.Ls Go.Tr
end Go.Dc
namespace Go.Proofs.YtggcpoleklcmkaaGreatDoor
open Go.Sl Go.Ls Go.Tr Go.Dc
end Go.Proofs.YtggcpoleklcmkaaGreatDoor

namespace Go.Dc
open Go.Sl Go.Ls Go.Tr
def tot (h : Int → Int) : List (Int × Bool) → Int
 | [] => 0
 | p :: l => h p.1 + tot h l
theorem tot_app (h : Int → Int) : ∀ (a b : List (Int × Bool)), tot h (a ++ b) = tot h a + tot h b
 | [], b => by rw [tot]; simp
 | p :: a, b => by rw [List.cons_append, tot, tot, tot_app h a b]; omega
theorem tot_perm (h : Int → Int) {a b : List (Int × Bool)} (hp : a.Perm b) : tot h a = tot h b := by
 induction hp with
 | nil => rfl
 | cons x _ ih => rw [tot, tot, ih]
 | swap x y l => rw [tot, tot, tot, tot]; omega
 | trans _ _ h1 h2 => rw [h1, h2]
theorem tot_congr {h g : Int → Int} : ∀ {l : List (Int × Bool)}, (∀ p ∈ l, h p.1 = g p.1) → tot h l = tot g l
 | [], _ => rfl
 | p :: l, hh => by rw [tot, tot, hh p (.head _), tot_congr fun q hq => hh q (.tail _ hq)]
theorem tot_nonneg {h : Int → Int} : ∀ {l : List (Int × Bool)}, (∀ p ∈ l, 0 ≤ h p.1) → 0 ≤ tot h l
 | [], _ => Int.le_refl _
 | p :: l, hh => by
  rw [tot]
  have := hh p (.head _)
  have := tot_nonneg fun q hq => hh q (List.mem_cons_of_mem p hq)
  omega
theorem tot_up {h : Int → Int} {i v : Int} : ∀ {l : List (Int × Bool)}, (l.map Prod.fst).Nodup → i ∈ l.map Prod.fst → tot (fun k => if k = i then v else h k) l = tot h l + v - h i
 | [], _, hi => by cases hi
 | p :: l, hn, hi => by
  rw [List.map_cons, List.nodup_cons] at hn
  rw [tot, tot]
  by_cases hp : p.1 = i
  ·have : tot (fun k => if k = i then v else h k) l = tot h l := tot_congr fun q hq => if_neg fun e => hn.1 (by rw [hp, ← e]; exact List.mem_map_of_mem hq)
   rw [this, if_pos hp, hp]
   omega
  ·rw [if_neg hp, tot_up hn.2 ((List.mem_cons.1 hi).resolve_left fun e => hp e.symm)]
   omega
def Dr.len (d : Dr) (i : Int) : Int := ((d.at_ i).getD Atr.z).path.length
theorem Dr.len_nn (d : Dr) (i : Int) : 0 ≤ d.len i := Int.natCast_nonneg _
theorem len_of {d d' : Dr} {i : Int} (h : d'.at_ i = d.at_ i) : d'.len i = d.len i := by rw [Dr.len, Dr.len, h]
theorem get_of {d d' : Dr} {i : Int} (h : d'.at_ i = d.at_ i) : d'.get i = d.get i := by rw [Dr.get, Dr.get, h]
structure DInv (d : Dr) : Prop where
 seg : d.segs = tot d.len d.top.gs
 right : ∀ p ∈ d.top.gs, p.1 ≠ 0 → (d.get p.1).check p.2 = 0
 most : d.segs ≤ mostSegs
theorem DInv.nonneg {d : Dr} (h : DInv d) : 0 ≤ d.segs := by rw [h.seg]; exact tot_nonneg fun p _ => d.len_nn p.1
theorem perm_gs {a b c : List (Int × Bool)} (h : ∀ x, a.count x = b.count x + c.count x) : a.Perm (b ++ c) := by
 rw [List.perm_iff_count]
 intro x
 rw [List.count_append, h x]
theorem perm_gs0 {a b : List (Int × Bool)} (h : ∀ x, a.count x = b.count x) : a.Perm b := List.perm_iff_count.2 h
theorem segsOf_ents (at_ : Int → Atr) (n : Nd) : segsOf (ents at_ n) = tot (fun i => ((at_ i).path.length : Int)) n.gs := by
 refine Nd.rec (motive_1 := fun n => segsOf (ents at_ n) = tot (fun i => ((at_ i).path.length : Int)) n.gs) (motive_2 := fun l => segsOf (entss at_ l) = tot (fun i => ((at_ i).path.length : Int)) (Nd.gss l)) ?_ ?_ ?_ n
 ·intro i g ks h
  rw [ents, Nd.gs, tot, ← h]; rfl
 ·rw [entss, Nd.gss]; rfl
 ·intro k ks h1 h2
  rw [entss, Nd.gss, tot_app, ← h1, ← h2]
  have : ∀ a b : List Ent, segsOf (a ++ b) = segsOf a + segsOf b := by
   intro a b
   induction a with
   | nil => show segsOf b = 0 + segsOf b; omega
   | cons x a ih => show (x.atr.path.length : Int) + segsOf (a ++ b) = (x.atr.path.length : Int) + segsOf a + segsOf b; omega
  exact this _ _
theorem tk_gs : ∀ (f : Nat), (∀ (l : List Ent) n r, tk f l = some (n, r) → l.map (fun x => (x.id, x.grp)) = n.gs ++ r.map (fun x => (x.id, x.grp))) ∧ ∀ (k : Nat) (l : List Ent) ns r, tks f k l = some (ns, r) → l.map (fun x => (x.id, x.grp)) = Nd.gss ns ++ r.map (fun x => (x.id, x.grp)) := by
 intro f
 induction f with
 | zero =>
  refine ⟨fun l n r h => ?_, fun k l ns r h => ?_⟩
  ·rw [tk] at h; cases h
  ·cases k with
   | zero => rw [tks] at h; cases h; rw [Nd.gss]; rfl
   | succ k => rw [tks] at h; cases h
 | succ f ih =>
  refine ⟨fun l n r h => ?_, fun k l ns r h => ?_⟩
  ·cases l with
   | nil => rw [tk] at h; cases h
   | cons x l =>
    rw [tk] at h
    split at h
    ·cases h
    ·split at h
     ·cases h
     ·rename_i ks rest he
      cases h
      rw [List.map_cons, ih.2 _ _ _ _ he, Nd.gs]; rfl
  ·cases k with
   | zero => rw [tks] at h; cases h; rw [Nd.gss]; rfl
   | succ k =>
    rw [tks] at h
    split at h
    ·cases h
    ·rename_i n r1 he
     split at h
     ·cases h
     ·rename_i ns' r2 he2
      cases h
      rw [ih.1 _ _ _ he, ih.2 _ _ _ _ he2, Nd.gss, List.append_assoc]
theorem Tk_gs {l : List Ent} {n : Nd} (h : Tk l = some (n, [])) : l.map (fun x => (x.id, x.grp)) = n.gs := by
 have := (tk_gs _).1 _ _ _ h
 simpa using this
theorem putAll_ne : ∀ {l : List Ent} {f : Int → Option Atr} {i : Int}, i ∉ l.map Ent.id → putAll f l i = f i
 | [], f, i, _ => rfl
 | x :: l, f, i, h => by
  rw [List.map_cons, List.mem_cons, not_or] at h
  rw [putAll, putAll_ne h.2, upAt, if_neg h.1]
theorem putAll_at : ∀ {l : List Ent} {f : Int → Option Atr} {x : Ent}, (l.map Ent.id).Nodup → x ∈ l → putAll f l x.id = some x.atr
 | [], _, _, _, h => by cases h
 | y :: l, f, x, hn, hx => by
  rw [List.map_cons, List.nodup_cons] at hn
  rw [putAll]
  rcases List.mem_cons.1 hx with rfl | hx
  ·rw [putAll_ne hn.1, upAt, if_pos rfl]
  ·exact putAll_at hn.2 hx
theorem dropAll_ne : ∀ {l : List Ent} {f : Int → Option Atr} {i : Int}, i ∉ l.map Ent.id → dropAll f l i = f i
 | [], f, i, _ => rfl
 | x :: l, f, i, h => by
  rw [List.map_cons, List.mem_cons, not_or] at h
  rw [dropAll, dropAll_ne h.2, downAt, if_neg h.1]
theorem gs_id {n : Nd} {p : Int × Bool} (h : p ∈ n.gs) : p.1 ∈ n.order := by rw [← Nd.order_gs]; exact List.mem_map_of_mem h
theorem find_gs {n : Nd} (p : Int × Bool) : n.order.Nodup → p ∈ n.gs → ∃ m, Nd.find p.1 n = some m ∧ m.grp = p.2 := by
 refine Nd.rec (motive_1 := fun n => n.order.Nodup → p ∈ n.gs → ∃ m, Nd.find p.1 n = some m ∧ m.grp = p.2) (motive_2 := fun l => (Nd.orders l).Nodup → p ∈ Nd.gss l → ∃ m, Nd.finds p.1 l = some m ∧ m.grp = p.2) ?_ ?_ ?_ n
 ·intro i g ks ih ho hp
  rw [Nd.order, List.nodup_cons] at ho
  rw [Nd.gs] at hp
  rw [Nd.find]
  rcases List.mem_cons.1 hp with rfl | hp
  ·exact ⟨_, if_pos rfl, rfl⟩
  ·have hm : p.1 ∈ Nd.orders ks := by
    have := gs_id (n := .mk i g ks) (p := p) (by rw [Nd.gs]; exact List.mem_cons_of_mem _ hp)
    rw [Nd.order] at this
    rcases List.mem_cons.1 this with e | e
    ·exfalso
     have h2 : ∀ (l : List Nd), p ∈ Nd.gss l → p.1 ∈ Nd.orders l := by
      intro l
      induction l with
      | nil => intro h; rw [Nd.gss] at h; cases h
      | cons k l ih2 =>
       intro h
       rw [Nd.gss] at h
       rw [Nd.orders]
       rcases List.mem_append.1 h with h | h
       ·exact List.mem_append.2 (.inl (gs_id h))
       ·exact List.mem_append.2 (.inr (ih2 h))
     exact ho.1 (by rw [← e]; exact h2 ks hp)
    ·exact e
   rw [if_neg fun e => ho.1 (by rw [e]; exact hm)]
   exact ih ho.2 hp
 ·intro _ hp; rw [Nd.gss] at hp; cases hp
 ·intro k l h1 h2 ho hp
  rw [Nd.orders, List.nodup_append] at ho
  rw [Nd.gss] at hp
  rw [Nd.finds]
  rcases List.mem_append.1 hp with hp | hp
  ·obtain ⟨m, hm, hg⟩ := h1 ho.1 hp
   rw [hm]; exact ⟨m, rfl, hg⟩
  ·obtain ⟨m, hm, hg⟩ := h2 ho.2.1 hp
   cases hk : Nd.find p.1 k with
   | some y =>
    exfalso
    have hq : p.1 ∈ k.order := (Nd.find_some p.1 k).1 (by rw [hk]; rfl)
    have hl : p.1 ∈ Nd.orders l := by
     have h2 : ∀ (l : List Nd), p ∈ Nd.gss l → p.1 ∈ Nd.orders l := by
      intro l
      induction l with
      | nil => intro h; rw [Nd.gss] at h; cases h
      | cons k l ih2 =>
       intro h
       rw [Nd.gss] at h
       rw [Nd.orders]
       rcases List.mem_append.1 h with h | h
       ·exact List.mem_append.2 (.inl (gs_id h))
       ·exact List.mem_append.2 (.inr (ih2 h))
     exact h2 l hp
    exact ho.2.2 _ hq _ hl rfl
   | none => exact ⟨m, hm, hg⟩
theorem firstWrong_all : ∀ {l : List Ent}, firstWrong l = 0 → ∀ x ∈ l, x.atr.check x.grp = 0
 | [], _, _, h => by cases h
 | y :: l, h, x, hx => by
  rw [firstWrong] at h
  split at h
  ·rename_i h1; exact absurd h h1
  ·rename_i h1
   rcases List.mem_cons.1 hx with rfl | hx
   ·exact Decidable.of_not_not h1
   ·exact firstWrong_all h x hx
theorem check_grp {a : Atr} (h : a.check true = 0) : a.path.length = 0 := by
 rw [Atr.check] at h
 split at h
 ·exact absurd h (by decide)
 rename_i h1
 split at h
 ·rename_i h2; exact absurd h h2
 rename_i h2
 split at h
 ·rename_i h3; exact absurd h h3
 split at h
 ·exact absurd h (by decide)
 ·rename_i h4
  have : ¬ 0 < a.path.length := fun e => h4 ⟨rfl, e⟩
  omega
theorem DInv.grp {d : Dr} (h : DInv d) (h0 : d.at_ 0 = none) {p : Int × Bool} (hp : p ∈ d.top.gs) (hg : p.2 = true) : d.len p.1 = 0 := by
 by_cases e : p.1 = 0
 ·rw [e, Dr.len, h0]; rfl
 ·have := h.right p hp e
  rw [hg] at this
  have := check_grp this
  show ((d.get p.1).path.length : Int) = 0
  rw [this]; rfl
section
variable {A B : Ar} {d : Dr} {c : Cm}
theorem inv_add (hi : DInv d) (hA : Abs A d.top) (hB : Abs B (d.add c).1.top) : DInv (d.add c).1 := by
 rw [Dr.add] at hB ⊢
 split at hB
 ·rename_i h; rw [if_pos h]; exact hi
 rename_i hw; rw [if_neg hw]
 split at hB
 ·rename_i h; rw [if_pos h]; exact hi
 rename_i hf; rw [if_neg hf]
 split at hB
 ·rename_i h; rw [if_pos h]; exact hi
 rename_i hm; rw [if_neg hm]
 split at hB
 ·rename_i h; rw [if_pos h]; exact hi
 rename_i he; rw [if_neg he]
 have he := Decidable.of_not_not he
 have hf := firstWrong_all (Decidable.of_not_not hf)
 obtain ⟨n, hn⟩ := (Whole_iff _).1 (Decidable.of_not_not hw)
 have hno := nodeOf_eq hn
 have hids := Tk_order hn
 have hgs := Tk_gs hn
 rw [hno] at hB he ⊢
 simp only [List.map_nil, List.append_nil] at hids
 have hc := Nd.gcount_add hA.od he
 have hco := Nd.count_add hA.od he
 have hod := hB.od
 simp only at hB hod ⊢
 generalize (Nd.add d.top c.parent c.index n).1 = top' at *
 have hperm := perm_gs hc
 have hpo : top'.order.Perm (d.top.order ++ n.order) := by
  rw [List.perm_iff_count]; intro x; rw [List.count_append, hco x]
 have hnd := (hpo.nodup_iff).1 hod
 rw [List.nodup_append] at hnd
 have hids2 : (c.ents.map Ent.id).Nodup := by rw [hids]; exact hnd.2.1
 have hold : ∀ p ∈ d.top.gs, Dr.at_ ⟨top', putAll d.at_ c.ents, d.segs + segsOf c.ents⟩ p.1 = d.at_ p.1 := fun p hp => putAll_ne (by rw [hids]; exact fun h => hnd.2.2 _ (gs_id hp) _ h rfl)
 have hnew : ∀ x ∈ c.ents, Dr.at_ ⟨top', putAll d.at_ c.ents, d.segs + segsOf c.ents⟩ x.id = some x.atr := fun x hx => putAll_at hids2 hx
 generalize hd' : (⟨top', putAll d.at_ c.ents, d.segs + segsOf c.ents⟩ : Dr) = d' at *
 have ht : d'.top = top' := by rw [← hd']
 have hs : d'.segs = d.segs + segsOf c.ents := by rw [← hd']
 have hlenN : ∀ x ∈ c.ents, d'.len x.id = x.atr.path.length := fun x hx => by rw [Dr.len, hnew x hx]; rfl
 refine ⟨?_, fun p hp hp0 => ?_, by rw [hs]; omega⟩
 ·rw [hs, ht, tot_perm _ hperm, tot_app, tot_congr fun p hp => len_of (hold p hp), ← hi.seg, ← hgs]
  congr 1
  have : ∀ l : List Ent, (∀ x ∈ l, d'.len x.id = x.atr.path.length) → segsOf l = tot d'.len (l.map fun x => (x.id, x.grp)) := by
   intro l
   induction l with
   | nil => intro _; rfl
   | cons x l ih =>
    intro h
    rw [List.map_cons, tot, ← ih fun y hy => h y (List.mem_cons_of_mem _ hy)]
    simp only [h x (.head _)]
    rfl
  exact this _ hlenN
 ·rw [ht] at hp
  rcases List.mem_append.1 (hperm.mem_iff.1 hp) with hp | hp
  ·rw [get_of (hold p hp)]; exact hi.right p hp hp0
  ·rw [← hgs] at hp
   obtain ⟨x, hx, rfl⟩ := List.mem_map.1 hp
   simp only
   rw [Dr.get, hnew x hx]
   exact hf x hx
theorem inv_remove (hi : DInv d) (hA : Abs A d.top) : DInv (d.remove c).1 := by
 rw [Dr.remove]
 simp only
 split
 ·exact hi
 ·rename_i h0
  have h0 := Decidable.of_not_not h0
  have hg := hA.gcount_rem h0
  obtain ⟨o1, o2, o3, o4, o5⟩ := hA.rem_nodup h0
  have hp := perm_gs (fun x => (hg x).symm)
  have hids := ents_ids d.get (Nd.remove d.top c.id).2.1
  have hs := segsOf_ents d.get (Nd.remove d.top c.id).2.1
  have hnn := segsOf_nonneg (ents d.get (Nd.remove d.top c.id).2.1)
  generalize (Nd.remove d.top c.id).1 = t1 at *
  generalize (Nd.remove d.top c.id).2.1 = n at *
  have hl : ∀ p ∈ t1.gs, Dr.at_ ⟨t1, dropAll d.at_ (ents d.get n), d.segs - segsOf (ents d.get n)⟩ p.1 = d.at_ p.1 := fun p hp =>
   dropAll_ne (show p.1 ∉ (ents d.get n).map Ent.id by rw [hids]; exact o3 _ (gs_id hp))
  refine ⟨?_, fun p hp2 hp0 => ?_, ?_⟩
  ·show d.segs - segsOf _ = tot _ t1.gs
   have h3 : segsOf (ents d.get n) = tot d.len n.gs := hs
   rw [tot_congr fun p hp => len_of (hl p hp), hi.seg, tot_perm _ hp, tot_app, h3]
   omega
  ·rw [get_of (hl p hp2)]; exact hi.right p (hp.mem_iff.2 (List.mem_append.2 (.inl hp2))) hp0
  ·have := hi.most
   show d.segs - segsOf _ ≤ _
   omega
theorem inv_move (hi : DInv d) (hA : Abs A d.top) : DInv (d.move c).1 := by
 rw [Dr.move]
 simp only
 split
 ·exact hi
 ·rename_i h0
  have hp := perm_gs0 (hA.gcount_move (Decidable.of_not_not h0))
  refine ⟨?_, fun p hp2 hp0 => hi.right p (hp.mem_iff.1 hp2) hp0, hi.most⟩
  show d.segs = tot _ _
  rw [tot_perm _ hp]; exact hi.seg
theorem inv_wrap (hi : DInv d) (hA : Abs A d.top) (hB : Abs B (d.wrap c).1.top) : DInv (d.wrap c).1 := by
 rw [Dr.wrap] at hB ⊢
 split at hB
 ·rename_i h; rw [if_pos h]; exact hi
 rename_i hc; rw [if_neg hc]
 have hc := Decidable.of_not_not hc
 simp only at hB ⊢
 split at hB
 ·rename_i h; rw [if_pos h]; exact hi
 rename_i h0; rw [if_neg h0]
 have h0 := Decidable.of_not_not h0
 have hg := Nd.gcount_wrap hA.od h0
 have hod := hB.od
 have hcn := Nd.count_wrap hA.od h0
 simp only at hod ⊢
 generalize (Nd.wrap d.top c.id c.parent c.index c.count).1 = t1 at *
 have hp : t1.gs.Perm ((c.id, true) :: d.top.gs) := List.perm_iff_count.2 fun x => by rw [List.count_cons, hg x]; simp only [beq_iff_eq]
 have hni : c.id ∉ d.top.order := fun h => by
  have h1 := hcn c.id
  rw [if_pos rfl] at h1
  have h2 := nodup_count hod c.id
  have h3 := mem_count.1 h
  omega
 have hl : ∀ p ∈ d.top.gs, Dr.at_ ⟨t1, upAt d.at_ c.id c.atr, d.segs⟩ p.1 = d.at_ p.1 := fun p hp =>
  if_neg (show ¬ p.1 = c.id from fun e => hni (by rw [← e]; exact gs_id hp))
 have h1 : Dr.at_ ⟨t1, upAt d.at_ c.id c.atr, d.segs⟩ c.id = some c.atr := if_pos rfl
 have h2 : Dr.len ⟨t1, upAt d.at_ c.id c.atr, d.segs⟩ c.id = 0 := by
  rw [Dr.len, h1, Option.getD_some, check_grp hc]; rfl
 refine ⟨?_, fun p hp2 hp0 => ?_, hi.most⟩
 ·show d.segs = _
  rw [tot_perm _ hp, tot, tot_congr fun p hp => len_of (hl p hp), ← hi.seg]
  simp only [h2]
  omega
 ·rcases List.mem_cons.1 (hp.mem_iff.1 hp2) with rfl | hp2
  ·simp only
   rw [Dr.get, h1]; exact hc
  ·rw [get_of (hl p hp2)]; exact hi.right p hp2 hp0
theorem inv_unwrap (hi : DInv d) (hA : Abs A d.top) (h00 : d.at_ 0 = none) : DInv (d.unwrap c).1 := by
 rw [Dr.unwrap]
 simp only
 split
 ·exact hi
 ·rename_i h0
  have h0 := Decidable.of_not_not h0
  have hg := hA.gcount_unwrap h0
  have hcn := hA.count_unwrap h0
  generalize (Nd.unwrap d.top c.id).1 = t1 at *
  have hp : d.top.gs.Perm ((c.id, true) :: t1.gs) := List.perm_iff_count.2 fun x => by rw [List.count_cons, ← hg x]; simp only [beq_iff_eq]
  have hni : c.id ∉ t1.order := fun h => by
   have h1 := hcn c.id
   rw [if_pos rfl] at h1
   have h2 := nodup_count hA.od c.id
   have h3 := mem_count.1 h
   omega
  have hl : ∀ p ∈ t1.gs, Dr.at_ ⟨t1, downAt d.at_ c.id, d.segs⟩ p.1 = d.at_ p.1 := fun p hp =>
   if_neg (show ¬ p.1 = c.id from fun e => hni (by rw [← e]; exact gs_id hp))
  have h1 : d.len c.id = 0 := hi.grp h00 (p := (c.id, true)) (hp.mem_iff.2 (.head _)) rfl
  refine ⟨?_, fun p hp2 hp0 => ?_, hi.most⟩
  ·show d.segs = _
   rw [tot_congr fun p hp => len_of (hl p hp), hi.seg, tot_perm _ hp, tot, h1]
   omega
  ·rw [get_of (hl p hp2)]; exact hi.right p (hp.mem_iff.2 (.tail _ hp2)) hp0
theorem inv_set (hi : DInv d) (hA : Abs A d.top) (hdom : ∀ i, (d.at_ i).isSome = true ↔ i ≠ 0 ∧ i ∈ d.top.order) (h6 : 6 ≤ c.kind) : DInv (d.set c).1 := by
 rw [Dr.set]
 split
 ·exact hi
 rename_i h0
 split
 ·exact hi
 rename_i a ha
 split
 ·exact hi
 rename_i hk
 split
 ·exact hi
 rename_i hc
 split
 ·exact hi
 rename_i hm
 have hin := ((hdom c.id).1 (by rw [ha]; rfl)).2
 have hda : d.len c.id = a.path.length := by rw [Dr.len, ha]; rfl
 have hga : d.get c.id = a := by rw [Dr.get, ha]; rfl
 have hn : (d.top.gs.map Prod.fst).Nodup := by rw [Nd.order_gs]; exact hA.od
 have hlen : Dr.len ⟨d.top, upAt d.at_ c.id (change a c).1, d.segs + (change a c).1.path.length - a.path.length⟩ = fun k => if k = c.id then ((change a c).1.path.length : Int) else d.len k := by
  funext k
  rw [Dr.len, Dr.len]
  simp only [upAt]
  split <;> rfl
 refine ⟨?_, fun p hp hp0 => ?_, by show d.segs + _ - _ ≤ _; omega⟩
 ·show d.segs + _ - _ = tot _ d.top.gs
  rw [hlen, tot_up hn (by rw [Nd.order_gs]; exact hin), ← hi.seg, hda]
 ·have hr := hi.right p hp hp0
  by_cases e : p.1 = c.id
  ·rw [e, hga] at hr
   have h1 : Dr.get ⟨d.top, upAt d.at_ c.id (change a c).1, d.segs + (change a c).1.path.length - a.path.length⟩ p.1 = (change a c).1 := by
    rw [Dr.get]; simp only [upAt, if_pos e]; rfl
   rw [h1]
   refine change_right hr (fun h8 => ?_) (Decidable.of_not_not hc) h6
   cases hg : p.2 with
   | false => rfl
   | true =>
    exact absurd ⟨h8, by
     obtain ⟨m, hm, hmg⟩ := find_gs p hA.od hp
     rw [← e, hm]
     show m.grp = true
     rw [hmg, hg]⟩ hk
  ·rw [get_of (d := d) (show upAt d.at_ c.id (change a c).1 p.1 = d.at_ p.1 from if_neg e)]
   exact hr
theorem inv_apply (hi : DInv d) (hA : Abs A d.top) (hdom : ∀ i, (d.at_ i).isSome = true ↔ i ≠ 0 ∧ i ∈ d.top.order) (hB : Abs B (d.apply c).1.top) : DInv (d.apply c).1 := by
 rw [Dr.apply] at hB ⊢
 by_cases k1 : c.kind = 1
 ·rw [if_pos k1] at hB ⊢; exact inv_add hi hA hB
 rw [if_neg k1] at hB ⊢
 by_cases k2 : c.kind = 2
 ·rw [if_pos k2]; exact inv_remove hi hA
 rw [if_neg k2] at hB ⊢
 by_cases k3 : c.kind = 3
 ·rw [if_pos k3]; exact inv_move hi hA
 rw [if_neg k3] at hB ⊢
 by_cases k4 : c.kind = 4
 ·rw [if_pos k4] at hB ⊢; exact inv_wrap hi hA hB
 rw [if_neg k4] at hB ⊢
 by_cases k5 : c.kind = 5
 ·rw [if_pos k5]
  exact inv_unwrap hi hA (by
   cases h : d.at_ 0 with
   | none => rfl
   | some a => exact absurd rfl ((hdom 0).1 (by rw [h]; rfl)).1)
 rw [if_neg k5] at hB ⊢
 by_cases k6 : 6 ≤ c.kind ∧ c.kind ≤ 12
 ·rw [if_pos k6]; exact inv_set hi hA hdom k6.1
 ·rw [if_neg k6]; exact hi
theorem set_top : (d.set c).1.top = d.top := by
 rw [Dr.set]
 repeat' split
 all_goals rfl
theorem apply_step : Nd.Step1 d.top (d.apply c).1.top := by
 rw [Dr.apply]
 by_cases k1 : c.kind = 1
 ·rw [if_pos k1, Dr.add]
  repeat' split
  all_goals first | exact .inl rfl | exact .inr (.inl ⟨_, _, _, rfl⟩)
 rw [if_neg k1]
 by_cases k2 : c.kind = 2
 ·rw [if_pos k2, Dr.remove]
  simp only
  split
  ·exact .inl rfl
  ·exact .inr (.inr (.inl ⟨_, rfl⟩))
 rw [if_neg k2]
 by_cases k3 : c.kind = 3
 ·rw [if_pos k3, Dr.move]
  simp only
  split
  ·exact .inl rfl
  ·exact .inr (.inr (.inr (.inl ⟨_, _, _, rfl⟩)))
 rw [if_neg k3]
 by_cases k4 : c.kind = 4
 ·rw [if_pos k4, Dr.wrap]
  simp only
  repeat' split
  all_goals first | exact .inl rfl | exact .inr (.inr (.inr (.inr (.inl ⟨_, _, _, _, rfl⟩))))
 rw [if_neg k4]
 by_cases k5 : c.kind = 5
 ·rw [if_pos k5, Dr.unwrap]
  simp only
  split
  ·exact .inl rfl
  ·exact .inr (.inr (.inr (.inr (.inr ⟨_, rfl⟩))))
 rw [if_neg k5]
 by_cases k6 : 6 ≤ c.kind ∧ c.kind ≤ 12
 ·rw [if_pos k6, set_top]; exact .inl rfl
 ·rw [if_neg k6]; exact .inl rfl
structure Fit (d : Dr) : Prop where
 inv : DInv d
 good : Nd.Good d.top
theorem Fit.apply (h : Fit d) (hA : Abs A d.top) (hdom : ∀ i, (d.at_ i).isSome = true ↔ i ≠ 0 ∧ i ∈ d.top.order) (hB : Abs B (d.apply c).1.top) : Fit (d.apply c).1 :=
 ⟨inv_apply h.inv hA hdom hB, h.good.step hA apply_step⟩
theorem Fit.new : Fit Dr.new := ⟨⟨rfl, fun p hp h => by
  have hp : p ∈ [((0 : Int), true)] := hp
  exact absurd (by rw [List.mem_singleton.1 hp]) h, by decide⟩, Nd.Rch.start.good⟩
end
end Go.Dc

namespace Go.Dc
open Go.Sl Go.Ls Go.Tr
end Go.Dc
namespace Go.Proofs.YtggcpoleklcmkaaGreatDoor
open Go.Sl Go.Ls Go.Tr Go.Dc
end Go.Proofs.YtggcpoleklcmkaaGreatDoor

namespace Go.Dc
open Go.Sl Go.Ls Go.Tr
section
variable {A B : Ar} {d : Dr} {c : Cm} {at_ : Int → Option Atr}
end
end Go.Dc

namespace Go.Proofs.YtggcpoleklcmkaaGreatDoor
open Go.Sl Go.Ls Go.Tr Go.Dc
end Go.Proofs.YtggcpoleklcmkaaGreatDoor

namespace Go.Dc
open Go.Sl Go.Ls Go.Tr
theorem Tk_ents (at_ : Int → Atr) (n : Nd) : ∀ r, Tk (ents at_ n ++ r) = some (n, r) := by
 refine Nd.rec (motive_1 := fun n => ∀ r, Tk (ents at_ n ++ r) = some (n, r)) (motive_2 := fun l => ∀ r, Tks l.length (entss at_ l ++ r) = some (l, r)) ?_ ?_ ?_ n
 ·intro i g ks h r
  rw [ents, List.cons_append, Tk_cons]
  have h1 := entss_len at_ ks
  have h2 := Nd.len_le_sizes ks
  rw [if_neg (by simp only [List.length_append]; omega)]
  simp only [Int.toNat_natCast, h r]
 ·intro r
  rw [entss]; exact Tks_zero _
 ·intro k ks h1 h2 r
  rw [entss, List.length_cons, Tks_succ, List.append_assoc, h1]
  simp only [h2 r]
theorem Tk_ents0 (at_ : Int → Atr) (n : Nd) : Tk (ents at_ n) = some (n, []) := by
 have := Tk_ents at_ n []
 rwa [List.append_nil] at this
theorem ents_gs (at_ : Int → Atr) (n : Nd) : (ents at_ n).map (fun x => (x.id, x.grp)) = n.gs := Tk_gs (Tk_ents0 at_ n)
theorem dropAll_mem : ∀ {l : List Ent} {f : Int → Option Atr} {i : Int}, i ∈ l.map Ent.id → dropAll f l i = none
 | [], _, _, h => by cases h
 | x :: l, f, i, h => by
  rw [dropAll]
  by_cases hi : i ∈ l.map Ent.id
  ·exact dropAll_mem hi
  ·rw [dropAll_ne hi]
   have : i = x.id := by
    rcases List.mem_cons.1 h with h | h
    ·exact h
    ·exact absurd h hi
   rw [downAt, if_pos this]
theorem Dr.ext_of {d e : Dr} (ht : e.top = d.top) (ha : e.at_ = d.at_) (hd : DInv d) (he : DInv e) : e = d := by
 have h1 := hd.seg
 have h2 := he.seg
 obtain ⟨t, a, s⟩ := d
 obtain ⟨t', a', s'⟩ := e
 simp only at ht ha
 subst ht; subst ha
 simp only at h1 h2
 congr 1
 rw [h1, h2]
 rfl
section
variable {A B : Ar} {d : Dr} {c : Cm}
theorem apply_err (h : (d.apply c).2.2 ≠ 0) : (d.apply c).1 = d ∧ (d.apply c).2.1 = Cm.z := by
 have key : ∀ {q : Dr × Cm × Int}, q.2.2 ≠ 0 → (q.2.2 = 0 ∨ (q.1 = d ∧ q.2.1 = Cm.z)) → q.1 = d ∧ q.2.1 = Cm.z := fun h1 h2 => h2.resolve_left h1
 refine key h ?_
 rw [Dr.apply]
 by_cases k1 : c.kind = 1
 ·rw [if_pos k1, Dr.add]
  repeat' split
  all_goals first | exact .inr ⟨rfl, rfl⟩ | exact .inl rfl
 rw [if_neg k1]
 by_cases k2 : c.kind = 2
 ·rw [if_pos k2, Dr.remove]
  simp only
  split
  all_goals first | exact .inr ⟨rfl, rfl⟩ | exact .inl rfl
 rw [if_neg k2]
 by_cases k3 : c.kind = 3
 ·rw [if_pos k3, Dr.move]
  simp only
  split
  all_goals first | exact .inr ⟨rfl, rfl⟩ | exact .inl rfl
 rw [if_neg k3]
 by_cases k4 : c.kind = 4
 ·rw [if_pos k4, Dr.wrap]
  simp only
  repeat' split
  all_goals first | exact .inr ⟨rfl, rfl⟩ | exact .inl rfl
 rw [if_neg k4]
 by_cases k5 : c.kind = 5
 ·rw [if_pos k5, Dr.unwrap]
  simp only
  split
  all_goals first | exact .inr ⟨rfl, rfl⟩ | exact .inl rfl
 rw [if_neg k5]
 by_cases k6 : 6 ≤ c.kind ∧ c.kind ≤ 12
 ·rw [if_pos k6, Dr.set]
  repeat' split
  all_goals first | exact .inr ⟨rfl, rfl⟩ | exact .inl rfl
 ·rw [if_neg k6]; exact .inr ⟨rfl, rfl⟩
theorem back_core (hA : Abs A d.top) (hF : Fit d) (hdom : ∀ i, (d.at_ i).isSome = true ↔ i ≠ 0 ∧ i ∈ d.top.order) (hB : Abs B (d.apply c).1.top) (h : (d.apply c).2.2 = 0) :
  ((d.apply c).1.apply (d.apply c).2.1).1.top = d.top ∧ ((d.apply c).1.apply (d.apply c).2.1).1.at_ = d.at_ ∧ ((d.apply c).1.apply (d.apply c).2.1).2.2 = 0 := by
 have key : ∀ {q : Dr × Cm × Int}, d.apply c = q → (q.1.apply q.2.1).1.top = d.top ∧ (q.1.apply q.2.1).1.at_ = d.at_ ∧ (q.1.apply q.2.1).2.2 = 0 → ((d.apply c).1.apply (d.apply c).2.1).1.top = d.top ∧ ((d.apply c).1.apply (d.apply c).2.1).1.at_ = d.at_ ∧ ((d.apply c).1.apply (d.apply c).2.1).2.2 = 0 := by
  rintro q rfl h
  exact h
 have h1n : ∀ {P : Prop} [Decidable P] {q : Dr × Cm × Int} {e : Int} , (if P then (d, Cm.z, e) else q).2.2 = 0 → e ≠ 0 → ¬ P ∧ (if P then (d, Cm.z, e) else q) = q := fun {P _ q e} h he => by
  split at h
  ·exact absurd h he
  ·rename_i hp; exact ⟨hp, if_neg hp⟩
 by_cases k1 : c.kind = 1
 ·have ha : d.apply c = d.add c := by rw [Dr.apply, if_pos k1]
  rw [ha] at h hB
  rw [Dr.add] at h
  obtain ⟨hW, e1⟩ := h1n h (by decide)
  rw [e1] at h
  have hf : firstWrong c.ents = 0 := by
   by_cases hf : firstWrong c.ents = 0
   ·exact hf
   ·rw [if_pos hf] at h; exact absurd h hf
  rw [if_neg (fun e => e hf)] at h
  have hm : ¬ mostSegs - d.segs < segsOf c.ents := fun hm => by
   rw [if_pos hm] at h
   simp only at h
   split at h
   ·rename_i h2; exact h2 h
   ·exact absurd h (by decide)
  rw [if_neg hm] at h
  have he : (Nd.add d.top c.parent c.index (nodeOf c.ents)).2 = 0 := by
   by_cases he : (Nd.add d.top c.parent c.index (nodeOf c.ents)).2 = 0
   ·exact he
   ·rw [if_pos he] at h; exact absurd h he
  have hq : d.apply c = (⟨(Nd.add d.top c.parent c.index (nodeOf c.ents)).1, putAll d.at_ c.ents, d.segs + segsOf c.ents⟩, { Cm.z with kind := 2, id := (nodeOf c.ents).id }, 0) := by
   rw [ha, Dr.add, if_neg hW, if_neg (fun e => e hf), if_neg hm, if_neg (fun e => e he)]
  rw [← ha, hq] at hB
  refine key hq ?_
  clear key hq h h1n e1 ha
  obtain ⟨n, hn⟩ := (Whole_iff _).1 (Decidable.of_not_not hW)
  have hids := Tk_order hn
  simp only [List.map_nil, List.append_nil] at hids
  rw [nodeOf_eq hn] at hB he ⊢
  have hu := hA.undoAdd hB (Prod.ext rfl he : Nd.add d.top c.parent c.index n = (_, 0))
  have hco := Nd.count_add hA.od he
  simp only at hB hu ⊢
  rw [Dr.apply, if_neg (by show ¬ (2 : Int) = 1; decide), if_pos rfl, Dr.remove]
  simp only [hu]
  rw [if_neg (fun e => e rfl)]
  refine ⟨rfl, ?_, rfl⟩
  simp only
  funext i
  have hie := ents_ids (Dr.get ⟨(Nd.add d.top c.parent c.index n).1, putAll d.at_ c.ents, d.segs + segsOf c.ents⟩) n
  by_cases hi : i ∈ n.order
  ·rw [dropAll_mem (by rw [hie]; exact hi)]
   cases hat : d.at_ i with
   | none => rfl
   | some a =>
    have h1 := mem_count.1 ((hdom i).1 (by rw [hat]; rfl)).2
    have h2 := mem_count.1 hi
    have h3 := hco i
    have h4 := nodup_count hB.od i
    omega
  ·rw [dropAll_ne (by rw [hie]; exact hi), putAll_ne (by rw [hids]; exact hi)]
 by_cases k2 : c.kind = 2
 ·have ha : d.apply c = d.remove c := by rw [Dr.apply, if_neg k1, if_pos k2]
  have he : (Nd.remove d.top c.id).2.2.2.2 = 0 := by
   by_cases he : (Nd.remove d.top c.id).2.2.2.2 = 0
   ·exact he
   ·rw [ha, Dr.remove] at h
    simp only at h
    rw [if_pos he] at h; exact absurd h he
  have hq : d.apply c = (⟨(Nd.remove d.top c.id).1, dropAll d.at_ (ents d.get (Nd.remove d.top c.id).2.1), d.segs - segsOf (ents d.get (Nd.remove d.top c.id).2.1)⟩, { Cm.z with kind := 1, parent := (Nd.remove d.top c.id).2.2.1, index := (Nd.remove d.top c.id).2.2.2.1, ents := ents d.get (Nd.remove d.top c.id).2.1 }, 0) := by
   rw [ha, Dr.remove]
   simp only
   rw [if_neg (fun e => e he)]
  rw [hq] at hB
  refine key hq ?_
  clear key hq h h1n ha
  have hu := hA.undoRemove hF.good (t1 := (Nd.remove d.top c.id).1) (n := (Nd.remove d.top c.id).2.1) (q := (Nd.remove d.top c.id).2.2.1) (k := (Nd.remove d.top c.id).2.2.2.1) (i := c.id) (by rw [← he])
  obtain ⟨o1, o2, o3, o4, o5⟩ := hA.rem_nodup he
  have hcr := hA.count_rem he
  have hgr := hA.gcount_rem he
  have h0n : (0 : Int) ∉ (Nd.remove d.top c.id).2.1.order := o3 0 (mem0 hB)
  generalize (Nd.remove d.top c.id).1 = t1 at *
  generalize (Nd.remove d.top c.id).2.1 = n at *
  generalize (Nd.remove d.top c.id).2.2.1 = q at *
  generalize (Nd.remove d.top c.id).2.2.2.1 = k at *
  have htk := Tk_ents0 d.get n
  have hids := ents_ids d.get n
  have hgs := ents_gs d.get n
  have hat : ∀ x ∈ ents d.get n, x.atr = d.get x.id := fun x hx => ents_atr hx
  have hin : ∀ i ∈ n.order, i ≠ 0 ∧ i ∈ d.top.order := fun i hi => ⟨fun e => h0n (by rw [← e]; exact hi), by
   rw [mem_count]
   have h1 := hcr i
   have h2 := mem_count.1 hi
   omega⟩
  have hwr : firstWrong (ents d.get n) = 0 := firstWrong_none _ fun y hy => by
   have h1 : (y.id, y.grp) ∈ n.gs := by rw [← hgs]; exact List.mem_map_of_mem (f := fun x : Ent => (x.id, x.grp)) hy
   have h2 : (y.id, y.grp) ∈ d.top.gs := by
    have h3 := hgr (y.id, y.grp)
    have h4 := List.count_pos_iff.2 h1
    exact List.count_pos_iff.1 (by omega)
   have h5 := hF.inv.right _ h2 (hin _ (gs_id h1)).1
   rw [hat y hy]
   exact h5
  simp only at hu ⊢
  rw [Dr.apply, if_pos rfl, Dr.add]
  simp only
  have hmost := hF.inv.most
  rw [if_neg (fun e => e ((Whole_iff _).2 ⟨n, htk⟩)), if_neg (fun e => e hwr), if_neg (by omega), nodeOf_eq htk, hu, if_neg (fun e => e rfl)]
  refine ⟨rfl, ?_, rfl⟩
  simp only
  funext i
  by_cases hi : i ∈ n.order
  ·have hi2 : i ∈ (ents d.get n).map Ent.id := by rw [hids]; exact hi
   obtain ⟨x, hx, rfl⟩ := List.mem_map.1 hi2
   rw [putAll_at (by rw [hids]; exact o2) hx, hat x hx]
   obtain ⟨a, ha⟩ := Option.isSome_iff_exists.1 ((hdom x.id).2 (hin _ hi))
   rw [Dr.get, ha]; rfl
  ·rw [putAll_ne (by rw [hids]; exact hi), dropAll_ne (by rw [hids]; exact hi)]
 by_cases k3 : c.kind = 3
 ·have ha : d.apply c = d.move c := by rw [Dr.apply, if_neg k1, if_neg k2, if_pos k3]
  have he : (Nd.move d.top c.id c.parent c.index).2 = 0 := by
   by_cases he : (Nd.move d.top c.id c.parent c.index).2 = 0
   ·exact he
   ·rw [ha, Dr.move] at h
    simp only at h
    rw [if_pos he] at h; exact absurd h he
  obtain ⟨_, _, _, hw⟩ := hA.rem_small (Nd.move_rem he)
  have hq : d.apply c = ({ d with top := (Nd.move d.top c.id c.parent c.index).1 }, { Cm.z with kind := 3, id := c.id, parent := (Nd.remove d.top c.id).2.2.1, index := (Nd.remove d.top c.id).2.2.2.1 }, 0) := by
   rw [ha, Dr.move]
   simp only [hw]
   rw [if_neg (fun e => e he)]
   rfl
  rw [hq] at hB
  refine key hq ?_
  clear key hq h h1n ha
  have hu := hA.undoMove hF.good hB (Prod.ext rfl he : Nd.move d.top c.id c.parent c.index = (_, 0)) hw
  simp only at hu ⊢
  rw [Dr.apply, if_neg (by show ¬ (3 : Int) = 1; decide), if_neg (by show ¬ (3 : Int) = 2; decide), if_pos rfl, Dr.move]
  simp only [hu]
  rw [if_neg (fun e => e rfl)]
  exact ⟨rfl, rfl, rfl⟩
 by_cases k4 : c.kind = 4
 ·have ha : d.apply c = d.wrap c := by rw [Dr.apply, if_neg k1, if_neg k2, if_neg k3, if_pos k4]
  have hc : c.atr.check true = 0 := by
   by_cases hc : c.atr.check true = 0
   ·exact hc
   ·rw [ha, Dr.wrap, if_pos hc] at h; exact absurd h hc
  have he : (Nd.wrap d.top c.id c.parent c.index c.count).2 = 0 := by
   by_cases he : (Nd.wrap d.top c.id c.parent c.index c.count).2 = 0
   ·exact he
   ·rw [ha, Dr.wrap, if_neg (fun e => e hc)] at h
    simp only at h
    rw [if_pos he] at h; exact absurd h he
  have hq : d.apply c = (⟨(Nd.wrap d.top c.id c.parent c.index c.count).1, upAt d.at_ c.id c.atr, d.segs⟩, { Cm.z with kind := 5, id := c.id }, 0) := by
   rw [ha, Dr.wrap, if_neg (fun e => e hc)]
   simp only
   rw [if_neg (fun e => e he)]
  rw [hq] at hB
  refine key hq ?_
  clear key hq h h1n ha
  have hu := hA.undoWrap hB (Prod.ext rfl he : Nd.wrap d.top c.id c.parent c.index c.count = (_, 0))
  have hcn := Nd.count_wrap hA.od he c.id
  have hod := nodup_count hB.od c.id
  simp only at hu hod ⊢
  rw [Dr.apply, if_neg (by show ¬ (5 : Int) = 1; decide), if_neg (by show ¬ (5 : Int) = 2; decide), if_neg (by show ¬ (5 : Int) = 3; decide), if_neg (by show ¬ (5 : Int) = 4; decide), if_pos rfl, Dr.unwrap]
  simp only [hu]
  rw [if_neg (fun e => e rfl)]
  refine ⟨rfl, ?_, rfl⟩
  simp only
  funext i
  rw [downAt, upAt]
  by_cases hi : i = c.id
  ·rw [if_pos hi]
   cases hat : d.at_ i with
   | none => rfl
   | some a =>
    have h1 := mem_count.1 ((hdom i).1 (by rw [hat]; rfl)).2
    rw [if_pos rfl] at hcn
    rw [hi] at h1
    omega
  ·rw [if_neg hi, if_neg hi]
 by_cases k5 : c.kind = 5
 ·have ha : d.apply c = d.unwrap c := by rw [Dr.apply, if_neg k1, if_neg k2, if_neg k3, if_neg k4, if_pos k5]
  have he : (Nd.unwrap d.top c.id).2.2.2.2 = 0 := by
   by_cases he : (Nd.unwrap d.top c.id).2.2.2.2 = 0
   ·exact he
   ·rw [ha, Dr.unwrap] at h
    simp only at h
    rw [if_pos he] at h; exact absurd h he
  have hq : d.apply c = (⟨(Nd.unwrap d.top c.id).1, downAt d.at_ c.id, d.segs⟩, { Cm.z with kind := 4, id := c.id, parent := (Nd.unwrap d.top c.id).2.1, index := (Nd.unwrap d.top c.id).2.2.1, count := (Nd.unwrap d.top c.id).2.2.2.1, atr := d.get c.id }, 0) := by
   rw [ha, Dr.unwrap]
   simp only
   rw [if_neg (fun e => e he)]
  rw [hq] at hB
  refine key hq ?_
  clear key hq h h1n ha
  have hu := hA.undoUnwrap hF.good (t1 := (Nd.unwrap d.top c.id).1) (q := (Nd.unwrap d.top c.id).2.1) (k := (Nd.unwrap d.top c.id).2.2.1) (c := (Nd.unwrap d.top c.id).2.2.2.1) (i := c.id) (by rw [← he])
  have hcn := hA.count_unwrap he c.id
  have hgn := hA.gcount_unwrap he (c.id, true)
  rw [if_pos rfl] at hcn hgn
  have hin : c.id ∈ d.top.order := mem_count.2 (by omega)
  have hgin : (c.id, true) ∈ d.top.gs := List.count_pos_iff.1 (by omega)
  obtain ⟨_, _, _, _, hid0⟩ := hA.rem_nodup (Nd.unwrap_rem he)
  have hck : (d.get c.id).check true = 0 := hF.inv.right _ hgin hid0
  simp only at hu ⊢
  rw [Dr.apply, if_neg (by show ¬ (4 : Int) = 1; decide), if_neg (by show ¬ (4 : Int) = 2; decide), if_neg (by show ¬ (4 : Int) = 3; decide), if_pos rfl, Dr.wrap]
  simp only [hu]
  rw [if_neg (fun e => e hck), if_neg (fun e => e rfl)]
  refine ⟨rfl, ?_, rfl⟩
  simp only
  funext i
  rw [upAt, downAt]
  by_cases hi : i = c.id
  ·rw [if_pos hi]
   obtain ⟨a, ha⟩ := Option.isSome_iff_exists.1 ((hdom c.id).2 ⟨hid0, hin⟩)
   rw [hi, Dr.get, ha]; rfl
  ·rw [if_neg hi, if_neg hi]
 by_cases k6 : 6 ≤ c.kind ∧ c.kind ≤ 12
 case neg =>
  rw [Dr.apply, if_neg k1, if_neg k2, if_neg k3, if_neg k4, if_neg k5, if_neg k6] at h
  exact absurd h (by show ¬ (33 : Int) = 0; decide)
 have ha : d.apply c = d.set c := by rw [Dr.apply, if_neg k1, if_neg k2, if_neg k3, if_neg k4, if_neg k5, if_pos k6]
 rw [ha, Dr.set] at h
 obtain ⟨hid0, e1⟩ := h1n h (by decide)
 rw [e1] at h
 cases hat : d.at_ c.id with
 | none => rw [hat] at h; exact absurd h (by show ¬ (31 : Int) = 0; decide)
 | some a =>
  rw [hat] at h
  simp only at h
  obtain ⟨hgr, e2⟩ := h1n h (by decide)
  rw [e2] at h
  have hc : (change a c).2.2 = 0 := by
   by_cases hc : (change a c).2.2 = 0
   ·exact hc
   ·rw [if_pos hc] at h; exact absurd h hc
  rw [if_neg (fun e => e hc)] at h
  obtain ⟨hm, _⟩ := h1n h (by decide)
  have hq : d.apply c = (⟨d.top, upAt d.at_ c.id (change a c).1, d.segs + (change a c).1.path.length - a.path.length⟩, { (change a c).2.1 with id := c.id }, 0) := by
   rw [ha, Dr.set, if_neg hid0, hat]
   simp only
   rw [if_neg hgr, if_neg (fun e => e hc), if_neg hm]
  refine key hq ?_
  clear key hq h h1n ha e1 e2
  have hin := ((hdom c.id).1 (by rw [hat]; rfl)).2
  have hgin : ∃ g, (c.id, g) ∈ d.top.gs := by
   rw [← Nd.order_gs] at hin
   obtain ⟨p, hp, e⟩ := List.mem_map.1 hin
   exact ⟨p.2, by rw [← e]; exact hp⟩
  obtain ⟨g, hgin⟩ := hgin
  have hck : (d.get c.id).check g = 0 := hF.inv.right _ hgin hid0
  rw [Dr.get, hat] at hck
  obtain ⟨b1, b2, b3, b4, b5⟩ := change_back (c := c) hck k6.1 k6.2 hc c.id
  have hmost := hF.inv.most
  simp only [Option.getD_some] at b1 b2 b3 b4 b5
  generalize hbk : ({ (change a c).2.1 with id := c.id } : Cm) = bk at *
  have hbi : bk.id = c.id := by rw [← hbk]
  have hbkk : bk.kind = (change a c).2.1.kind := by rw [← hbk]
  rw [← hbkk] at b3 b4 b5
  simp only
  rw [Dr.apply, if_neg (by omega), if_neg (by omega), if_neg (by omega), if_neg (by omega), if_neg (by omega), if_pos ⟨b3, b4⟩, Dr.set, hbi, if_neg hid0]
  simp only [upAt, if_pos]
  rw [if_neg (fun hh => hgr ⟨b5 hh.1, hh.2⟩), if_neg (fun e => e b2), b1, if_neg (by omega)]
  refine ⟨rfl, ?_, rfl⟩
  simp only
  funext i
  rw [upAt]
  by_cases hi : i = c.id
  ·rw [if_pos hi, hi, hat]
  ·rw [if_neg hi, upAt, if_neg hi]
theorem apply_back (hA : Abs A d.top) (hF : Fit d) (hdom : ∀ i, (d.at_ i).isSome = true ↔ i ≠ 0 ∧ i ∈ d.top.order) (hB : Abs B (d.apply c).1.top) (hdom' : ∀ i, ((d.apply c).1.at_ i).isSome = true ↔ i ≠ 0 ∧ i ∈ (d.apply c).1.top.order) (h : (d.apply c).2.2 = 0) :
  ((d.apply c).1.apply (d.apply c).2.1).1 = d ∧ ((d.apply c).1.apply (d.apply c).2.1).2.2 = 0 := by
 obtain ⟨h1, h2, h3⟩ := back_core hA hF hdom hB h
 have hF' := hF.apply hA hdom hB
 have hi := inv_apply (B := A) hF'.inv hB hdom' (c := (d.apply c).2.1) (by rw [h1]; exact hA)
 exact ⟨Dr.ext_of h1 h2 hF.inv hi, h3⟩
end
end Go.Dc

namespace Go.Sl
open Go.Ls
section
variable {Γ : Cx} {ρ : Nat → Value} {I : Mem} {L : List HP} {Q : Post}
end
end Go.Sl
namespace Go.Dc
open Go.Sl Go.Ls Go.Tr
section
variable {A B : Ar} {d : Dr} {c : Cm}
theorem back_fits (hA : Abs A d.top) (hF : Fit d) (hF' : Fit (d.apply c).1) : (d.apply c).2.1.ents.length ≤ 100000 ∧ (d.apply c).1.segs + segsOf (d.apply c).2.1.ents ≤ 1048576 := by
 have hm : d.segs ≤ 1048576 := hF.inv.most
 have hm' : (d.apply c).1.segs ≤ 1048576 := hF'.inv.most
 have nil : ∀ {q : Dr × Cm × Int}, q.1.segs ≤ 1048576 → q.2.1.ents = [] → q.2.1.ents.length ≤ 100000 ∧ q.1.segs + segsOf q.2.1.ents ≤ 1048576 := by
  intro q h1 h2
  rw [h2]
  refine ⟨Nat.zero_le _, ?_⟩
  have : segsOf [] = 0 := rfl
  omega
 by_cases k2 : c.kind = 2
 ·have ha : d.apply c = d.remove c := by rw [Dr.apply, if_neg (by omega), if_pos k2]
  rw [ha, Dr.remove] at hm' ⊢
  simp only at hm' ⊢
  split
  ·refine ⟨Nat.zero_le _, ?_⟩
   show d.segs + 0 ≤ _
   omega
  ·have h1 := ents_len d.get (Nd.remove d.top c.id).2.1
   have h2 := (hA.remSize c.id).2
   refine ⟨by simp only; omega, ?_⟩
   simp only
   omega
 ·refine nil hm' ?_
  rw [Dr.apply]
  by_cases k1 : c.kind = 1
  ·rw [if_pos k1, Dr.add]
   repeat' split
   all_goals rfl
  rw [if_neg k1, if_neg k2]
  by_cases k3 : c.kind = 3
  ·rw [if_pos k3, Dr.move]
   simp only
   split <;> rfl
  rw [if_neg k3]
  by_cases k4 : c.kind = 4
  ·rw [if_pos k4, Dr.wrap]
   split
   ·rfl
   ·simp only
    split <;> rfl
  rw [if_neg k4]
  by_cases k5 : c.kind = 5
  ·rw [if_pos k5, Dr.unwrap]
   simp only
   split <;> rfl
  rw [if_neg k5]
  by_cases k6 : 6 ≤ c.kind ∧ c.kind ≤ 12
  ·rw [if_pos k6]
   have hch : ∀ a, (change a c).2.1.ents = [] := fun a => by
    rw [change]
    repeat' split
    all_goals rfl
   rw [Dr.set]
   repeat' split
   all_goals first | rfl | exact hch _
  ·rw [if_neg k6]
end
end Go.Dc
namespace Go.Proofs.YtggcpoleklcmkaaGreatDoor
open Go.Sl Go.Ls Go.Tr Go.Dc
instance : ClK Tryz.prog 120 := ⟨_, rfl, by kernel_rfl, by kernel_rfl, by kernel_rfl, by kernel_rfl⟩
attribute [local irreducible] WC WL WX WK WA WAK Val Ctr RunRes ResIs Rd At sl box pt Exit.then Exit.inBlock bodyPost Code.wp wpList
theorem mClone (b n : Nat) (f : Int → Option Value) (I : Mem) : Ctr Tryz.prog 76 [.map (some b)] I [mp b f n] (fun v I' L' => I' = I ∧ ∃ b', v = .map (some b') ∧ L' = [mp b f n, mp b' f n]) := by
 refine Ctr.intro Tryz.func76 rfl rfl rfl fun E F => ?_
 refine jS (WL.val Val.assign rfl ?_)
 refine jM (jB (jS (WL.val Val.move rfl ?_)))
 refine jm (Val.mapNil rfl) ?_
 refine jM (jE (jV (jK (WL.val Val.move rfl ?_))))
 refine jm (Val.mapIface rfl) ?_
 refine WL.cloneMap 1 rfl rfl rfl rfl fun b' => ?_
 refine jW ?_
 refine jm (Val.mapAssert rfl) ?_
 refine WL.val Val.assign rfl ?_
 refine jM (jR ?_)
 exact jP [0, 0] (jr1 rfl (ResIs.tmp rfl)) ⟨rfl, b', rfl, rfl⟩
theorem dCopy (D : Dm) (d : Dr) (I : Mem) (hD : DAbs I D d) : Ctr Tryz.prog 26 [ptr D.b] I D.hp (fun v I' L' => I' = I ∧ ∃ D2 : Dm, v = ptr D2.b ∧ L' = D.hp ++ D2.hp ∧ DAbs I D2 d) := by
 refine Ctr.intro Tryz.func26 rfl rfl rfl fun E F => ?_
 refine jS (ji rfl (jM (jB (j8 999 [1] rfl (jT 0 rfl (Val.moveP rfl) (jT 1 rfl (jr rfl) (jT 2 rfl (jn rfl) (jT 3 rfl (jp 0 rfl rfl rfl) (jT 5 rfl (Val.moveP rfl) (jT 6 rfl (jr rfl) (jT 7 rfl (jn rfl) (jT 8 rfl (jp 0 rfl rfl rfl) (jT 10 rfl (Val.moveP rfl) (jT 11 rfl (jr rfl) (jT 12 rfl (jn rfl) (jT 13 rfl (jp 0 rfl rfl rfl) (j5 4 rfl (WL.callP [3, 3, 3, 3, 3] rfl rfl (tCopy D.A d.top hD.abs _) rfl ?_))))))))))))))))))
 rintro _ I1 _ _ ⟨rfl, C, hC, rfl, rfl⟩
 change WL _ _ _ _ _ (_ ++ [_, _, _, _, _, _, _, _, _, _]) _
 refine jW ?_
 refine jC (j7 [1] rfl (j5 9 rfl (WL.callP [2] rfl rfl (mClone D.mb D.cnt D.f _) rfl ?_)))
 rintro _ I2 _ _ ⟨rfl, mb2, rfl, rfl⟩
 refine jW ?_
 refine jC (j7 [1] rfl (j5 14 rfl (jm (Val.build (cs := [ptr C.b, .map (some mb2), vi D.segs]) rfl) ?_)))
 refine jC (j7 [1] rfl (j5 15 rfl (WL.boxA rfl rfl (fun _ => ?_))))
 rename_i g
 refine jW ?_
 refine jC (j7 [1] rfl (jT 16 rfl (Val.assignP rfl) (j6 (jA (jR ?_)))))
 exact jP [0, 10, 0, 0, 0, 0, 0, 6, 5, 0, 0, 0, 0, 0] (jr1 rfl (ResIs.tmpP rfl)) ⟨rfl, { b := g, A := C, mb := mb2, f := D.f, cnt := D.cnt, segs := D.segs }, rfl, rfl, ⟨hC.abs hD.abs, hD.rep, hD.segs, hD.dom, hD.lim⟩⟩
end Go.Proofs.YtggcpoleklcmkaaGreatDoor

namespace Go.Hi
open Go.Sl Go.Ls Go.Tr Go.Dc
def GoodD (d : Dr) : Prop := (∃ A, Abs A d.top) ∧ Fit d ∧ ∀ i, (d.at_ i).isSome = true ↔ i ≠ 0 ∧ i ∈ d.top.order
theorem GoodD.back {d : Dr} {c : Cm} (h : GoodD d) (h' : GoodD (d.apply c).1) (he : (d.apply c).2.2 = 0) : ((d.apply c).1.apply (d.apply c).2.1).1 = d ∧ ((d.apply c).1.apply (d.apply c).2.1).2.2 = 0 := by
 obtain ⟨⟨A, hA⟩, hF, hd⟩ := h
 obtain ⟨⟨B, hB⟩, _, hd'⟩ := h'
 exact apply_back hA hF hd hB hd' he
theorem GoodD.new : GoodD Dr.new := ⟨⟨_, Abs.fresh 0 0 0⟩, Fit.new, fun i => ⟨fun h => (by cases h), fun h => by
 have h2 : i ∈ [0] := h.2
 exact absurd (List.mem_singleton.1 h2) h.1⟩⟩
inductive Run : Dr → List Cm → Dr → List Cm → Prop where
 | nil {d : Dr} (h : GoodD d) : Run d [] d []
 | cons {d d' : Dr} {c : Cm} {s bs : List Cm} (h : GoodD d) (he : (d.apply c).2.2 = 0) (hr : Run (d.apply c).1 s d' bs) : Run d (c :: s) d' (bs ++ [(d.apply c).2.1])
theorem Run.good {d d' : Dr} {s bs : List Cm} (h : Run d s d' bs) : GoodD d ∧ GoodD d' := by
 induction h with
 | nil h => exact ⟨h, h⟩
 | cons h _ _ ih => exact ⟨h, ih.2⟩
theorem Run.app {d d1 d2 : Dr} {s t bs ct : List Cm} (h : Run d s d1 bs) (k : Run d1 t d2 ct) : Run d (s ++ t) d2 (ct ++ bs) := by
 induction h with
 | nil _ => rw [List.append_nil]; exact k
 | cons h he _ ih =>
  rw [List.cons_append, ← List.append_assoc]
  exact .cons h he (ih k)
theorem Run.snoc {d d1 : Dr} {s bs : List Cm} {c : Cm} (h : Run d s d1 bs) (he : (d1.apply c).2.2 = 0) (hg : GoodD (d1.apply c).1) : Run d (s ++ [c]) (d1.apply c).1 ((d1.apply c).2.1 :: bs) := by
 have := h.app (.cons h.good.2 he (.nil hg))
 exact this
theorem Run.uniq {d d1 d2 : Dr} {s bs ct : List Cm} (h : Run d s d1 bs) (k : Run d s d2 ct) : d1 = d2 ∧ bs = ct := by
 induction h generalizing d2 ct with
 | nil _ => cases k with | nil _ => exact ⟨rfl, rfl⟩
 | cons h he _ ih =>
  cases k with
  | cons h' he' hr' =>
   obtain ⟨rfl, rfl⟩ := ih hr'
   exact ⟨rfl, rfl⟩
theorem Run.back {d d1 : Dr} {s bs : List Cm} (h : Run d s d1 bs) : ∃ t, Run d1 bs d t := by
 induction h with
 | nil h => exact ⟨[], .nil h⟩
 | @cons d d' c s bs h he hr ih =>
  obtain ⟨t, ht⟩ := ih
  obtain ⟨b1, b2⟩ := h.back ht.good.2 he
  have h2 : Run (d.apply c).1 [(d.apply c).2.1] ((d.apply c).1.apply (d.apply c).2.1).1 _ := .cons ht.good.2 b2 (.nil (by rw [b1]; exact h))
  rw [b1] at h2
  exact ⟨_, ht.app h2⟩
def errS : Dr → List Cm → Int
 | _, [] => 0
 | d, c :: s => if (d.apply c).2.2 ≠ 0 then (d.apply c).2.2 else errS (d.apply c).1 s
theorem Run.err {d d1 : Dr} {s bs : List Cm} (h : Run d s d1 bs) : errS d s = 0 := by
 induction h with
 | nil _ => rfl
 | cons h he _ ih => rw [errS, if_neg (fun e => e he), ih]
theorem Run.err_app {d d1 : Dr} {s bs : List Cm} {c : Cm} (h : Run d s d1 bs) (r : List Cm) (he : (d1.apply c).2.2 ≠ 0) : errS d (s ++ c :: r) = (d1.apply c).2.2 := by
 induction h with
 | nil _ => rw [List.nil_append, errS, if_pos he]
 | cons h h0 _ ih => rw [List.cons_append, errS, if_neg (fun e => e h0), ih he]
def Fits (c : Cm) (d : Dr) : Prop := c.ents.length ≤ 100000 ∧ d.segs + segsOf c.ents ≤ 1048576
def FitsS : Dr → List Cm → Prop
 | _, [] => True
 | d, c :: s => Fits c d ∧ ((d.apply c).2.2 = 0 → FitsS (d.apply c).1 s)
theorem FitsS.snoc {d d1 : Dr} {s t : List Cm} {b : Cm} (r : Run d s d1 t) : FitsS d s → Fits b d1 → FitsS d (s ++ [b]) := by
 induction r with
 | nil _ => exact fun _ hb => ⟨hb, fun _ => trivial⟩
 | cons h he _ ih => exact fun h1 hb => ⟨h1.1, fun k => ih (h1.2 k) hb⟩
theorem Run.fits {d d1 : Dr} {s bs : List Cm} (h : Run d s d1 bs) : FitsS d1 bs := by
 induction h with
 | nil _ => trivial
 | @cons d d' c s bs h he hr ih =>
  obtain ⟨t, ht⟩ := hr.back
  obtain ⟨⟨A, hA⟩, hF, _⟩ := h
  exact ih.snoc ht (back_fits hA hF hr.good.1.2.1)
inductive Chain : Dr → List (List Cm) → List Dr → Prop where
 | nil {d : Dr} : Chain d [] []
 | snoc {d w : Dr} {us : List (List Cm)} {ws : List Dr} {s s0 : List Cm} (hr : Run w s0 d s) (h : Chain w us ws) : Chain d (us ++ [s]) (ws ++ [w])
theorem Chain.len {d : Dr} {us : List (List Cm)} {ws : List Dr} (h : Chain d us ws) : us.length = ws.length := by
 induction h with
 | nil => rfl
 | snoc _ _ ih => rw [List.length_append, List.length_append, ih]; rfl
theorem Chain.top {d : Dr} {us : List (List Cm)} {ws : List Dr} {s : List Cm} (h : Chain d (us ++ [s]) ws) : ∃ w vs s0 t, ws = vs ++ [w] ∧ Run w s0 d s ∧ Run d s w t ∧ Chain w us vs := by
 generalize hq : us ++ [s] = q at h
 cases h with
 | nil => simp at hq
 | snoc hr h =>
  obtain ⟨e1, e2⟩ := List.append_inj' hq rfl
  cases e2; subst e1
  obtain ⟨t, ht⟩ := hr.back
  exact ⟨_, _, _, t, rfl, hr, ht, h⟩
theorem Chain.drop1 {d : Dr} {us : List (List Cm)} {ws : List Dr} (h : Chain d us ws) : Chain d (us.drop 1) (ws.drop 1) := by
 induction h with
 | nil => exact .nil
 | @snoc d w us ws s t hr h ih =>
  have hl := h.len
  cases us with
  | nil =>
   have : ws = [] := List.eq_nil_of_length_eq_zero (by simpa using hl.symm)
   subst this
   exact .nil
  | cons u us =>
   cases ws with
   | nil => simp at hl
   | cons x ws => exact .snoc hr ih
theorem Chain.drop {d : Dr} {us : List (List Cm)} {ws : List Dr} : ∀ n : Nat, Chain d us ws → Chain d (us.drop n) (ws.drop n)
 | 0, h => h
 | n + 1, h => by
  have := (Chain.drop n h).drop1
  rwa [List.drop_drop, List.drop_drop] at this
end Go.Hi
