/-
 Drawings, the law's play; DocPlays. -- KS14
-/
import Derived.Test.YtggcpoleklcmkaaGreatDoorX2
import Derived.Test.YtggcpoleklcmkaaGreatDoorX14
import Derived.Test.YtggcpoleklcmkaaGreatDoorX3
set_option linter.unusedVariables false
set_option linter.unusedSimpArgs false
namespace Go.Proofs.YtggcpoleklcmkaaGreatDoor
open Go.Sl Go.Ls Go.Tr Go.Dc
set_option maxRecDepth 100000
set_option maxHeartbeats 8000000
attribute [local irreducible] WC WL WX WK WA WAK Val Ctr RunRes ResIs Rd At sl box pt Exit.then Exit.inBlock bodyPost Code.wp wpList
def DPlayR (n : Nat) : Value → Mem → List HP → Prop := fun v I' L' => ∃ (D : Dm) (d : Dr) (g mb cnt : Nat) (kv : Value) (at_ : Int → Option Atr) (f : Int → Option Value), v = .tuple #[ptr D.b, ptr g, .bool true] ∧ L' = mbox g mb d.top kv :: mp mb f cnt :: D.hp ∧
 DAbs I' D d ∧ Fit d ∧ LsAt Nd.Rp I' d.top.kids kv ∧ AtRep I' at_ f ∧ Agr at_ d ∧ d.segs ≤ 1200 * (n : Int)
theorem dPlay (l : List Cm) (v : Value) (I : Mem) (hN : NeedAt I) (hv : LsAt Cm.rep I l v) (hs : ∀ c ∈ l, c.small) (hl : l.length ≤ 200) : Ctr Tryz.prog 23 [v] I [] (DPlayR l.length) := by
 have hv0 := hv
 obtain ⟨a1, c1, rfl⟩ := hv.sl
 refine Ctr.intro Tryz.func23 rfl rfl rfl fun E F => ?_
 refine jS (ji rfl (ji rfl (jg rfl (jN (WL.callP [] rfl rfl (dNew _) rfl ?_)))))
 rintro _ I1 _ _ ⟨rfl, b, tb, mb0, cg, db, rfl, rfl⟩
 have hD0 := new_abs I1 b mb0 cg db tb
 generalize hDe : ({ b := db, A := Ar.fresh b mb0 cg, mb := tb, f := fun _ => none, cnt := 0, segs := 0 } : Dm) = D0 at hD0
 have hL0 : docBox db b tb 0 :: mp tb (fun _ => none) 0 :: (Ar.fresh b mb0 cg).hp = D0.hp := by rw [← hDe]; rfl
 have hb0 : db = D0.b := by rw [← hDe]
 rw [hL0, hb0]
 clear hL0 hb0 hDe
 refine jW ?_
 refine ji rfl (jN (jm (Val.build (cs := [vi 0, .bool true, .slice none 0 0]) rfl) ?_))
 refine WL.makeMap rfl fun mb => ?_
 refine jW ?_
 refine jm (Val.build (cs := [vi 0, .bool true, .slice none 0 0, .map (some mb)]) rfl) ?_
 refine WL.boxA rfl rfl (fun _ => ?_)
 refine jW ?_
 refine ji rfl (jM (jB (jS (jd rfl ?_))))
 rename_i g
 refine jm (Val.eqlNilP rfl) ?_
 refine jM (jE (jV (jA (jB (jS (jc rfl (jm (jo rfl) (ja rfl (jM (WC.block (WC.conv (fun w h => h.sub [0, 8, 7, 0, 0, 0, 0, 0, 0, 0] rfl) ?_)))))))))))
 refine WC.loop (fun n ρ' I' L' => ∃ (k : Nat) (D : Dm) (d : Dr) (cnt : Nat) (kv : Value) (at_ : Int → Option Atr) (f : Int → Option Value), n = l.length - k ∧ k ≤ l.length ∧ I1.le I' ∧ ρ' 5 = ptr D.b ∧ ρ' 6 = ptr g ∧ ρ' 20 = .slice a1 l.length c1 ∧ ρ' 21 = vi l.length ∧ ρ' 22 = vi k ∧
   L' = F :: mbox g mb d.top kv :: mp mb f cnt :: D.hp ∧ DAbs I' D d ∧ Fit d ∧ LsAt Nd.Rp I' d.top.kids kv ∧ AtRep I' at_ f ∧ Agr at_ d ∧ d.segs ≤ 1200 * (k : Int))
  l.length ⟨0, D0, Dr.new, 0, _, fun _ => none, _, rfl, by omega, Mem.le.refl _, rfl, rfl, rfl, rfl, rfl, rfl, hD0, Fit.new, LsAt.nil _ _, fun i => .inl ⟨rfl, rfl⟩, fun i hi hi0 => rfl, by decide⟩ ?_
 rintro n ρ' I2 L' ⟨k, D, d, cnt, kv, at_, f, rfl, hk, hI2, r5, r6, r20, r21, r22, rfl, hD, hF, hkv, hat, hag, hsg⟩
 rw [← upd_self r22, ← upd_self r21, ← upd_self r20, ← upd_self r6, ← upd_self r5]
 clear r22 r21 r20 r6 r5
 have hN2 := hN.mono hI2
 by_cases hkn : k < l.length
 ·obtain ⟨bq, off, cap, cs, he, ⟨e, t, u, dd, q, rfl, hc⟩, hA⟩ := (hv0.mono hI2).get k hkn
  cases he
  have hsm := hs _ (List.getElem_mem hkn)
  generalize l[k] = c at *
  have hse := small_segs hsm
  have hnn := segsOf_nonneg c.ents
  have hle : c.ents.length ≤ 100000 := by have := hsm.1; omega
  have hc0 := hc
  obtain ⟨x0, y0, x1, y1, x2, y2, x3, y3, x4, y4, rfl, rfl, rfl, rfl, rfl⟩ := hc.sl
  obtain ⟨m1, m2, m3⟩ := mdo_apply (c := c) hD.abs hF.inv hD.dom hag (by omega) hsm
  refine jS (jy rfl rfl (jM (jB (jF (jV (jA (jB (WC.block (jS (jm (jZ rfl rfl) (jm (Val.loadI rfl (by assumption) rfl) ?_)))))))))))
  refine WL.alloc rfl (fun _ => ?_)
  refine jW ?_
  refine WL.stA 10 rfl rfl rfl rfl ?_
  refine jN (jd rfl (jm (jt 10 rfl rfl rfl) ?_))
  rename_i g8
  refine WL.callP [1, 1] rfl rfl (mDo D.A d.top hD.abs kv at_ f g mb cnt c _ _ _ _ _ _ hN2 hkv hat hc0 hle) rfl ?_
  rintro _ I3 _ hI3 ⟨kv', f', cnt', rfl, rfl, hkv', hat'⟩
  rw [m1] at hkv' ⊢
  rw [m2]
  generalize (mdo d.top at_ c).2.1 = at2 at hat' m3
  refine jW ?_
  refine jf rfl (jN (jd rfl (jm (jt 8 rfl rfl rfl) (WL.callP [1, 1, 1, 1, 1, 1, 1] rfl rfl (dApply D d c _ _ _ _ _ _ (hN2.mono hI3) (hD.mono hI3) (hc0.mono hI3) hle hF.inv.nonneg (by omega)) rfl ?_))))
  rintro _ I4 _ hI4 ⟨D', bcs, rfl, ⟨e', t', u', d', q', rfl, hbk⟩, hb, rfl, hD'⟩
  obtain ⟨_, _, _, _, _, _, _, _, _, _, rfl, rfl, rfl, rfl, rfl⟩ := hbk.sl
  have hF' := hF.apply (c := c) hD.abs hD.dom hD'.abs
  have hsg' := apply_segs (d := d) hsm
  rw [← hb]
  refine jW ?_
  refine je rfl (jm (Val.extractA rfl rfl) (jm (jq rfl rfl) (WL.alloc rfl (fun _ => ?_))))
  refine jW ?_
  refine WL.stA 11 rfl rfl rfl rfl ?_
  refine jf rfl (jN (ja rfl (ja rfl (jz rfl rfl (jb rfl (jG (jd rfl (jG (jd rfl (jG ?_))))))))))
  rename_i g10
  refine WL.callR [2, 2, 2, 2, 2, 2, 2, 2, 2] rfl rfl rfl (mIs D' (d.apply c).1 _ hD' hF'.inv kv' at2 f' g mb cnt' (hkv'.mono hI4) (hat'.mono hI4) m3) rfl ?_
  rintro _ I5 hI5 rfl
  refine jG (jl rfl (jk rfl (jM (jE (jV (WX.inNormal (jA (jD (jX rfl rfl (ja rfl (jC (WX.conv (fun w h => h.sub [0, 1, 1, 1, 1, 1, 1, 1, 1, 1] rfl) ?_))))))))))))
  exact WX.thenK (WK.round (l.length - (k + 1)) (by omega) ⟨k + 1, D', (d.apply c).1, cnt', kv', at2, f', rfl, by omega, hI2.trans (hI3.trans (hI4.trans hI5)), rfl, rfl, rfl, rfl, rfl, rfl, hD'.mono hI5, hF', hkv'.mono (hI4.trans hI5), hat'.mono (hI4.trans hI5), m3, by omega⟩)
 ·have hkl : k = l.length := by omega
  subst hkl
  refine jS (jx rfl rfl (jM (jB (jE (WC.exit (WX.thenExit (WX.thenExit (WX.inHit (jK (jd rfl (jd rfl (ji rfl (ji rfl (jg rfl (jM (jR ?_))))))))))))))))
  have hJ := hI2
  refine jP [0, 0, 0, 0, 0, 0, 0, 0, 0] (jr3 rfl (ResIs.tmpP rfl) (ResIs.tmpP rfl) (jtB rfl)) ?_
  exact ⟨D, d, g, mb, cnt, kv, at_, f, rfl, rfl, hD, hF, hkv, hat, hag, hsg⟩
theorem dPlays (l : List Cm) (v : Value) (I : Mem) (hN : NeedAt I) (hv : LsAt Cm.rep I l v) : Ctr Tryz.prog 4 [v] I [] (KeepR [] fun v _ => v = .bool true) := by
 have hv0 := hv
 obtain ⟨a1, c1, rfl⟩ := hv.sl
 refine Ctr.intro Tryz.func4 rfl rfl rfl fun E F => ?_
 refine jS (jg rfl (jM (jB (jS (jc rfl ?_)))))
 refine WL.callE rfl rfl (small_ctr l 30 _ _ hv0) rfl (fun hs => ?_) (fun hs => ?_)
 ·skip
  refine jl rfl (jM (jE (jV (jK (jc rfl (WL.callP [] rfl rfl (dPlay l _ _ hN hv0 hs.1 (by have := hs.2; omega)) rfl ?_))))))
  rintro _ I1 _ hI1 ⟨D, d, g, mb, cnt, kv, at_, f, rfl, rfl, hD, _⟩
  refine jW ?_
  refine je rfl (jm (Val.extractP rfl rfl) (jm (Val.extractP rfl rfl) (jm (Val.extractB rfl rfl) (ji rfl (ji rfl (jg rfl (jN (jb rfl (jb rfl (jG (WL.callP [] rfl rfl (dAwake _ (hN.mono hI1)) rfl ?_)))))))))))
  rintro _ I2 _ hI2 ⟨rfl, rfl⟩
  refine jW ?_
  have hJ := hI1.trans hI2
  refine jk rfl (jg rfl (jM (jR ?_)))
  refine jP [] (jr1 rfl (jtB rfl)) ?_
  exact ⟨rfl, rfl⟩
 ·skip
  refine jl rfl (jM (jF (jS (WL.callP [] rfl rfl (dAwake _ hN) rfl ?_))))
  rintro _ I2 _ hI2 ⟨rfl, rfl⟩
  refine jW ?_
  refine jg rfl (jM (jR (jU ?_)))
  refine jP [] (jr1 rfl (jtB rfl)) ?_
  exact ⟨rfl, rfl⟩
end Go.Proofs.YtggcpoleklcmkaaGreatDoor
