/-
 Drawings: DocLoads. -- KS14
-/
import Derived.Test.YtggcpoleklcmkaaGreatDoorX2
import Derived.Test.YtggcpoleklcmkaaGreatDoorX14
import Derived.Test.YtggcpoleklcmkaaGreatDoorX3
set_option linter.unusedVariables false
set_option linter.unusedSimpArgs false
set_option maxRecDepth 100000
set_option maxHeartbeats 8000000
namespace Go.Proofs.YtggcpoleklcmkaaGreatDoor
open Go.Sl Go.Ls Go.Tr Go.Dc
attribute [local irreducible] WC WL WX WK WA WAK Val Ctr RunRes ResIs Rd At sl box pt Exit.then Exit.inBlock bodyPost Code.wp wpList
theorem dLoads (l : List Cm) (v : Value) (raw : List Ent) (u : Value) (I : Mem) (hN : NeedAt I) (hv : LsAt Cm.rep I l v) (hu : LsAt Ent.rep I raw u) :
  Ctr Tryz.prog 9 [v, u] I [] (KeepR [] fun v _ => v = .bool true) := by
 have hv0 := hv
 have hu0 := hu
 obtain ⟨a1, c1, rfl⟩ := hv.sl
 obtain ⟨a2, c2, rfl⟩ := hu.sl
 refine Ctr.intro Tryz.func9 rfl rfl rfl fun E F => ?_
 refine jS (jg rfl (jM (jB (jS (jc rfl ?_)))))
 refine WL.callE rfl rfl (small_ctr l 20 _ _ hv0) rfl (fun hs => ?_) (fun hs => ?_)
 case refine_2 =>
  refine jl rfl (jb rfl (jH (jH (jH (jH (jH (jk rfl (jM (jF (jS (WL.callP [] rfl rfl (dAwake _ hN) rfl ?_)))))))))))
  rintro _ I2 _ hI2 ⟨rfl, rfl⟩
  refine jW ?_
  refine jg rfl (jM (jR (jU ?_)))
  exact jP [] (jr1 rfl (jtB rfl)) ⟨rfl, rfl⟩
 refine jl rfl (jb rfl (jG (jc rfl (jG (jm (Val.build (cs := (Cm.cs { Cm.z with ents := raw } (.slice a2 raw.length c2) (.slice none 0 0) (.slice none 0 0) (.slice none 0 0) (.slice none 0 0))) rfl) ?_)))))
 refine jG (WL.buildSlice (by with_unfolding_all exact rfl) rfl (by with_unfolding_all exact rfl) rfl (fun _ => ?_))
 refine jW ?_
 refine jG ?_
 rename_i g20
 refine WL.boxSl (e := 59) (sz := 51) (n := 1) 1 rfl rfl (by decide) ?_
 refine WL.freezeL (R := Cm.rep) (l := [{ Cm.z with ents := raw }]) 1 rfl ⟨[_], rfl, ⟨_, _, _, _, _, rfl, ⟨i64z, i64z, i64z, i64z, i64z, i64z, i64z, hu0, Atr.z_at _, Sg.z_ok, Pt.z_ok⟩⟩, trivial⟩ fun I1 hI1 hvc => ?_
 refine WL.callE rfl rfl (small_ctr [{ Cm.z with ents := raw }] 1 _ _ hvc) rfl (fun hs2 => ?_) (fun hs2 => ?_)
 case refine_2 =>
  refine jG (jl rfl (jk rfl (jM (jF (jS (WL.callP [] rfl rfl (dAwake _ (hN.mono hI1)) rfl ?_))))))
  rintro _ I2 _ hI2 ⟨rfl, rfl⟩
  refine jW ?_
  have hJ := hI1.trans hI2
  refine jg rfl (jM (jR (jU ?_)))
  exact jP [] (jr1 rfl (jtB rfl)) ⟨rfl, rfl⟩
 have hcs : Cm.small { Cm.z with ents := raw } := hs2.1 _ (.head _)
 have hrw40 : raw.length ≤ 40 := hcs.1
 have hse : segsOf raw ≤ 1200 := small_segs hcs
 clear hvc hs2 hcs
 refine jG (jl rfl (jk rfl (jM (jE (jV (jK (jc rfl (WL.callP [] rfl rfl (dPlay l _ _ (hN.mono hI1) (hv0.mono hI1) hs.1 (by have := hs.2; omega)) rfl ?_))))))))
 rintro _ I2 _ hI2 ⟨D, d, g, mb, cnt, kv, at_, f, rfl, rfl, hD, hF, hkv, hat, hag, hsg⟩
 have hll : (l.length : Int) ≤ 20 := hs.2
 have hJ2 := hI1.trans hI2
 have hes := entries_segs hF.inv hD.abs (dom0 hD.dom)
 have hel : d.entries.length ≤ 100000 := by
  have h1 := hD.abs.size_le
  rw [Dr.entries, List.length_tail, ents_len]; omega
 refine jW ?_
 refine je rfl (jm (Val.extractP rfl rfl) (jm (Val.extractP rfl rfl) (jm (Val.extractB rfl rfl) (ji rfl (ji rfl (jg rfl (jM (jB (jS (jb rfl (jl rfl (jM (jE (jV (jK (jd rfl (WL.callR [3, 3, 3, 3, 3, 3, 3] rfl rfl rfl (dEntries D d _ hD) rfl ?_)))))))))))))))))
 rintro v1 I3 hI3 hv1
 have hJ3 := hJ2.trans hI3
 skip
 refine WL.callP [] rfl rfl (dLoad d.entries _ _ (hN.mono hJ3) hv1 hel (by omega)) rfl ?_
 rintro _ I4 _ hI4 hres
 rcases hres with ⟨D2, d2, rfl, rfl, hD2, hent2, _⟩ | ⟨e, _, _, _, _, hno⟩
 case inr => exact absurd (load_own hD.abs hF hD.dom hD.abs.g0) hno
 have hJ4 := hJ3.trans hI4
 refine jW ?_
 refine je rfl (jm (Val.extractP rfl rfl) (jm (jq rfl rfl) (ji rfl (jf rfl (jM (jB (jS (ja rfl (jz rfl rfl (jb rfl (jG (jd rfl (jG (jm (Val.eqlNilP rfl) ?_))))))))))))))
 refine jk rfl (jb rfl (jG (jd rfl (jG (jd rfl (jG (WL.callR [10, 10, 10, 10, 10, 10, 10, 3, 3, 3, 3, 3, 3, 3] rfl rfl rfl (dEqual D2 D d2 d _ hD2 (hD.mono (hI3.trans hI4))) rfl ?_)))))))
 rintro _ I5 hI5 ⟨b5, rfl, hb5⟩
 obtain rfl : b5 = true := hb5.2 hent2
 refine jG (jl rfl (jk rfl (jb rfl (jG (jd rfl (jG (jd rfl (jG (WL.callR [3, 3, 3, 3, 3, 3, 3, 3, 3, 3, 3, 3, 3, 3] rfl rfl rfl (dEqual D D2 d d2 _ (hD.mono (hI3.trans (hI4.trans hI5))) (hD2.mono hI5)) rfl ?_)))))))))
 rintro _ I6 hI6 ⟨b6, rfl, hb6⟩
 obtain rfl : b6 = true := hb6.2 hent2.symm
 have hJ6 := hJ4.trans (hI5.trans hI6)
 refine jG (jl rfl (jk rfl (jM (jE (jV (jK (jc rfl (WL.callP [] rfl rfl (dLoad raw _ _ (hN.mono hJ6) (hu0.mono hJ6) (by omega) (by omega)) rfl ?_))))))))
 rintro _ I7 _ hI7 hres
 have hJ7 := hJ6.trans hI7
 rcases hres with ⟨D3, d3, rfl, rfl, hD3, hent3, hseq⟩ | ⟨e, rfl, rfl, he0, he20, _⟩
 ·refine WL.nApp ?_
  refine WL.conv (fun w h => Sat.fold D3.hp (h.sub [17, 17, 17, 17, 17, 17, 17, 0] rfl |>.sub [0, 0, 0, 0, 0, 0, 0, 0] rfl)) ?_
  refine je rfl (jm (Val.extractP rfl rfl) (jm (jq rfl rfl) (ji rfl (jf rfl (jN (jf rfl (jN (jc rfl (WL.callR [] rfl rfl rfl (refs_ctr raw _ _ (hu0.mono hJ7) (by omega)) rfl ?_)))))))))
  rintro vr I8 hI8 hvr
  have hJ8 := hJ7.trans hI8
  have hvr0 := hvr
  obtain ⟨ra, rc, rfl⟩ := hvr.sl
  rw [List.length_map] at hvr0 ⊢
  refine jh rfl (jM (jB (WC.block ?_)))
  refine WC.loop (fun n ρ' I' L' => ∃ (q r : List Ent), n = r.length ∧ I8.le I' ∧ ρ' 1 = .slice a2 raw.length c2 ∧ ρ' 10 = ptr D3.b ∧ ρ' 11 = vi 0 ∧ ρ' 12 = vi q.length ∧ ρ' 13 = .slice ra raw.length rc ∧ L' = [sts D3.hp, F] ∧ raw = q ++ r ∧ (Seq raw → Seq r) ∧ (Seq r → Seq raw))
   raw.length ⟨[], raw, rfl, Mem.le.refl _, rfl, rfl, rfl, rfl, rfl, rfl, rfl, fun h => h, fun h => h⟩ ?_
  rintro n ρ' I9 L' ⟨q, r, rfl, hI9, r1, r10, r11, r12, r13, rfl, hqr, hs1, hs2⟩
  refine ju5 r13 r12 r11 r10 r1 ?_
  have hJ9 := hJ8.trans hI9
  have hlen : q.length + r.length = raw.length := by rw [hqr, List.length_append]
  have hrd : raw.drop q.length = r := by rw [hqr, List.drop_left]
  by_cases h0 : r.length = 0
  ·obtain rfl : r = [] := List.eq_nil_of_length_eq_zero h0
   rw [List.append_nil] at hqr
   have hlq : q.length = raw.length := by rw [hqr]
   refine jB (jS (ja rfl (jc rfl (jm (jo rfl) (jx rfl rfl (jM (jE (WC.exit (WX.thenExit (WX.thenExit (WX.inHit (jA (jB (jS (ja rfl (jz rfl rfl (jM (jE (jV (jK (jd rfl (jm (Val.neqNilP rfl) ?_))))))))))))))))))))))
   refine jb rfl (jG (jd rfl (jG (WL.conv (fun w h => Sat.unfold h) ?_))))
   refine WL.callR [0, 0, 0, 0, 0, 0, 0] rfl rfl rfl (dEntries D3 d3 _ (hD3.mono (hI8.trans hI9))) rfl ?_
   rintro v5 I10 hI10 hv5
   refine jW ?_
   refine jG (jc rfl (jG ?_))
   refine WL.callE rfl rfl (eqSame _ _ _ _ _ hv5 (hu0.mono (hJ9.trans hI10))) rfl (fun h => ?_) (fun h => absurd hent3 h)
   refine jk rfl (jb rfl (jG (WL.callP [] rfl rfl (dAwake _ (hN.mono (hJ9.trans hI10))) rfl ?_)))
   rintro _ I11 _ hI11 ⟨rfl, rfl⟩
   refine jW ?_
   have hJ := (hJ9.trans hI10).trans hI11
   refine jk rfl (jg rfl (jM (jR (WX.conv (fun w h => h.sub [7] rfl) ?_))))
   exact jP [] (jr1 rfl (jtB rfl)) ⟨rfl, rfl⟩
  have hvd := (hvr0.mono hI9).dropG q.length (by rw [List.length_map]; omega)
  have hrl : raw.length - q.length = r.length := by omega
  rw [← List.map_drop, hrd, List.length_map, hrl] at hvd
  have hcap := (hvr0.mono hI9).cap
  rw [List.length_map] at hcap
  refine jB (jS (ja rfl (jc rfl (jm (jo rfl) (jy rfl rfl (jM (jF (jV (jA (WC.block (jS (jc rfl (ja rfl (jm (Val.sliceFromG (m := q.length) rfl rfl rfl (by omega) (by omega)) ?_))))))))))))))
  rw [hrl]
  skip
  refine WL.callR [] rfl rfl rfl (take_ctr _ r (Nat.le_refl _) _ _ hvd (by omega)) rfl ?_
  rintro _ I10 hI10 ⟨nv, rfl, hnv, hni⟩
  have hJ10 := hJ9.trans hI10
  cases hT : Tk r with
  | none =>
   rw [takeR_none hT] at hnv hni ⊢
   obtain ⟨na, nc, rfl⟩ := hnv.sl
   exact absurd (hs1 hseq) (Seq.not (fun e => h0 (by rw [e]; rfl)) hT)
  | some nr =>
   obtain ⟨nd, r2⟩ := nr
   rw [takeR_some hT] at hnv hni ⊢
   obtain ⟨na, nc, rfl⟩ := hnv.sl
   obtain ⟨p, hp, htp, hpl, hp0, _⟩ := Tk_part hT
   have hW : Whole r ↔ r2.length = 0 := by
    rw [Whole_iff]
    constructor
    ·rintro ⟨m, hm⟩
     rw [hT] at hm
     injection hm with hm
     injection hm with _ hm
     rw [hm]; rfl
    ·intro h
     exact ⟨nd, by rw [hT, List.eq_nil_of_length_eq_zero h]⟩
   have hud := (hu0.mono hJ10).dropG q.length (by omega)
   rw [hrd, hrl] at hud
   have hucap := hu0.cap
   simp only at hni ⊢
   refine je rfl (jm (Val.extractA rfl rfl) (jm (jq rfl rfl) (WL.alloc rfl (fun _ => ?_))))
   refine jW ?_
   refine WL.stA 2 rfl rfl rfl rfl ?_
   refine jf rfl (jM (jB (jS (ja rfl (jv rfl rfl (jM (jE (jV (jA (jB (jS (jc rfl (ja rfl (jm (Val.sliceFromG (m := q.length) rfl rfl rfl (by omega) (by omega)) ?_))))))))))))))
   rw [hrl]
   skip
   refine WL.callE rfl rfl (whole_ctr r _ _ hud (by omega)) rfl (fun hw => ?_) (fun hw => ?_)
   ·have hr2 := hW.1 hw
    refine ja rfl (ja rfl (jX rfl rfl (jc rfl (jm (jo rfl) (jw rfl rfl (jm (Val.neqB rfl rfl) ?_))))))
    refine jM (jE (jV (jA (jD (ja rfl (ja rfl (jX rfl rfl (jf rfl (jC (WX.inNormal (WX.conv (fun w h => h.sub [0, 0] rfl) ?_)))))))))))
    refine WX.thenK (WK.round r2.length (by omega) ⟨q ++ p, r2, rfl, hI9.trans hI10, rfl, rfl, rfl, ?_, rfl, rfl, by rw [hqr, hp, List.append_assoc], fun h => (hs1 h).next hT, fun h => hs2 (.cons hT h)⟩)
    show vi _ = vi _
    congr 1
    rw [List.length_append]
    omega
   ·have hr2 : ¬ r2.length = 0 := fun e => hw (hW.2 e)
    refine ja rfl (ja rfl (jX rfl rfl (jc rfl (jm (jo rfl) (jv rfl rfl (jm (Val.neqB rfl rfl) ?_))))))
    refine jM (jE (jV (jA (jD (ja rfl (ja rfl (jX rfl rfl (jf rfl (jC (WX.inNormal (WX.conv (fun w h => h.sub [0, 0] rfl) ?_)))))))))))
    refine WX.thenK (WK.round r2.length (by omega) ⟨q ++ p, r2, rfl, hI9.trans hI10, rfl, rfl, rfl, ?_, rfl, rfl, by rw [hqr, hp, List.append_assoc], fun h => (hs1 h).next hT, fun h => hs2 (.cons hT h)⟩)
    show vi _ = vi _
    congr 1
    rw [List.length_append]
    omega
 ·refine WL.nApp ?_
  refine WL.conv (fun w h => (h.sub [0] rfl).noRows) ?_
  refine je rfl (jm (Val.extractP rfl rfl) (jm (jq rfl rfl) (ji rfl (jf rfl (jN (jf rfl (jN (jc rfl (WL.callR [] rfl rfl rfl (refs_ctr raw _ _ (hu0.mono hJ7) (by omega)) rfl ?_)))))))))
  rintro vr I8 hI8 hvr
  have hJ8 := hJ7.trans hI8
  have hvr0 := hvr
  obtain ⟨ra, rc, rfl⟩ := hvr.sl
  rw [List.length_map] at hvr0 ⊢
  refine jh rfl (jM (jB (WC.block ?_)))
  refine WC.loop (fun n ρ' I' L' => ∃ (q r : List Ent), n = r.length ∧ I8.le I' ∧ ρ' 1 = .slice a2 raw.length c2 ∧ ρ' 10 = .pointer none ∧ ρ' 11 = vi e ∧ ρ' 12 = vi q.length ∧ ρ' 13 = .slice ra raw.length rc ∧ L' = [sts ([] : List HP), F] ∧ raw = q ++ r ∧ (Seq raw → Seq r) ∧ (Seq r → Seq raw))
   raw.length ⟨[], raw, rfl, Mem.le.refl _, rfl, rfl, rfl, rfl, rfl, rfl, rfl, fun h => h, fun h => h⟩ ?_
  rintro n ρ' I9 L' ⟨q, r, rfl, hI9, r1, r10, r11, r12, r13, rfl, hqr, hs1, hs2⟩
  refine ju5 r13 r12 r11 r10 r1 ?_
  have hJ9 := hJ8.trans hI9
  have hlen : q.length + r.length = raw.length := by rw [hqr, List.length_append]
  have hrd : raw.drop q.length = r := by rw [hqr, List.drop_left]
  by_cases h0 : r.length = 0
  ·obtain rfl : r = [] := List.eq_nil_of_length_eq_zero h0
   rw [List.append_nil] at hqr
   have hlq : q.length = raw.length := by rw [hqr]
   have h20 := he20 (hs2 .nil)
   refine jB (jS (ja rfl (jc rfl (jm (jo rfl) (jx rfl rfl (jM (jE (WC.exit (WX.thenExit (WX.thenExit (WX.inHit (jA (jB (jS (ja rfl (jJ rfl rfl (jM (jF (jS (jd rfl (jm (Val.eqlNilP rfl) ?_)))))))))))))))))))))
   refine jb rfl (jG (ja rfl (jG (jJ rfl rfl (jk rfl (jb rfl (jG (WL.callP [] rfl rfl (dAwake _ (hN.mono hJ9)) rfl ?_))))))))
   rintro _ I11 _ hI11 ⟨rfl, rfl⟩
   refine jW ?_
   have hJ := hJ9.trans hI11
   refine jk rfl (jg rfl (jM (jR (jU (WX.conv (fun w h => h.sub [1] rfl) ?_)))))
   exact jP [] (jr1 rfl (jtB rfl)) ⟨rfl, rfl⟩
  have hvd := (hvr0.mono hI9).dropG q.length (by rw [List.length_map]; omega)
  have hrl : raw.length - q.length = r.length := by omega
  rw [← List.map_drop, hrd, List.length_map, hrl] at hvd
  have hcap := (hvr0.mono hI9).cap
  rw [List.length_map] at hcap
  refine jB (jS (ja rfl (jc rfl (jm (jo rfl) (jy rfl rfl (jM (jF (jV (jA (WC.block (jS (jc rfl (ja rfl (jm (Val.sliceFromG (m := q.length) rfl rfl rfl (by omega) (by omega)) ?_))))))))))))))
  rw [hrl]
  skip
  refine WL.callR [] rfl rfl rfl (take_ctr _ r (Nat.le_refl _) _ _ hvd (by omega)) rfl ?_
  rintro _ I10 hI10 ⟨nv, rfl, hnv, hni⟩
  have hJ10 := hJ9.trans hI10
  cases hT : Tk r with
  | none =>
   rw [takeR_none hT] at hnv hni ⊢
   obtain ⟨na, nc, rfl⟩ := hnv.sl
   refine je rfl (jm (Val.extractA rfl rfl) (jm (jq rfl rfl) (WL.alloc rfl (fun _ => ?_))))
   refine jW ?_
   refine WL.stA 2 rfl rfl rfl rfl ?_
   refine jf rfl (jM (jB (jS (ja rfl (jw rfl rfl (jM (jF (jS (jd rfl (jm (Val.eqlNilP rfl) ?_))))))))))
   refine jb rfl (jG (ja rfl (jG (jJ rfl rfl (jk rfl (jb rfl (jG (WL.callP [] rfl rfl (dAwake _ (hN.mono hJ10)) rfl ?_))))))))
   rintro _ I11 _ hI11 ⟨rfl, rfl⟩
   refine jW ?_
   have hJ := hJ10.trans hI11
   refine jk rfl (jg rfl (jM (jR (jU (WX.inRet (jU (WX.inRet (jU (WX.conv (fun w h => h.sub [1] rfl) ?_)))))))))
   exact jP [] (jr1 rfl (jtB rfl)) ⟨rfl, rfl⟩
  | some nr =>
   obtain ⟨nd, r2⟩ := nr
   rw [takeR_some hT] at hnv hni ⊢
   obtain ⟨na, nc, rfl⟩ := hnv.sl
   obtain ⟨p, hp, htp, hpl, hp0, _⟩ := Tk_part hT
   have hW : Whole r ↔ r2.length = 0 := by
    rw [Whole_iff]
    constructor
    ·rintro ⟨m, hm⟩
     rw [hT] at hm
     injection hm with hm
     injection hm with _ hm
     rw [hm]; rfl
    ·intro h
     exact ⟨nd, by rw [hT, List.eq_nil_of_length_eq_zero h]⟩
   have hud := (hu0.mono hJ10).dropG q.length (by omega)
   rw [hrd, hrl] at hud
   have hucap := hu0.cap
   simp only at hni ⊢
   refine je rfl (jm (Val.extractA rfl rfl) (jm (jq rfl rfl) (WL.alloc rfl (fun _ => ?_))))
   refine jW ?_
   refine WL.stA 2 rfl rfl rfl rfl ?_
   refine jf rfl (jM (jB (jS (ja rfl (jv rfl rfl (jM (jE (jV (jA (jB (jS (jc rfl (ja rfl (jm (Val.sliceFromG (m := q.length) rfl rfl rfl (by omega) (by omega)) ?_))))))))))))))
   rw [hrl]
   skip
   refine WL.callE rfl rfl (whole_ctr r _ _ hud (by omega)) rfl (fun hw => ?_) (fun hw => ?_)
   ·have hr2 := hW.1 hw
    refine ja rfl (ja rfl (jX rfl rfl (jc rfl (jm (jo rfl) (jw rfl rfl (jm (Val.neqB rfl rfl) ?_))))))
    refine jM (jE (jV (jA (jD (ja rfl (ja rfl (jX rfl rfl (jf rfl (jC (WX.inNormal (WX.conv (fun w h => h.sub [0, 0] rfl) ?_)))))))))))
    refine WX.thenK (WK.round r2.length (by omega) ⟨q ++ p, r2, rfl, hI9.trans hI10, rfl, rfl, rfl, ?_, rfl, rfl, by rw [hqr, hp, List.append_assoc], fun h => (hs1 h).next hT, fun h => hs2 (.cons hT h)⟩)
    show vi _ = vi _
    congr 1
    rw [List.length_append]
    omega
   ·have hr2 : ¬ r2.length = 0 := fun e => hw (hW.2 e)
    refine ja rfl (ja rfl (jX rfl rfl (jc rfl (jm (jo rfl) (jv rfl rfl (jm (Val.neqB rfl rfl) ?_))))))
    refine jM (jE (jV (jA (jD (ja rfl (ja rfl (jX rfl rfl (jf rfl (jC (WX.inNormal (WX.conv (fun w h => h.sub [0, 0] rfl) ?_)))))))))))
    refine WX.thenK (WK.round r2.length (by omega) ⟨q ++ p, r2, rfl, hI9.trans hI10, rfl, rfl, rfl, ?_, rfl, rfl, by rw [hqr, hp, List.append_assoc], fun h => (hs1 h).next hT, fun h => hs2 (.cons hT h)⟩)
    show vi _ = vi _
    congr 1
    rw [List.length_append]
    omega
end Go.Proofs.YtggcpoleklcmkaaGreatDoor
