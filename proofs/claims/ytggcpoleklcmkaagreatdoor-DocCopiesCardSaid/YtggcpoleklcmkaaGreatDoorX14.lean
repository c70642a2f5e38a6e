/-
 Drawings, the law's model: what a node has changes.
-/
import Derived.Test.YtggcpoleklcmkaaGreatDoorX2
import Derived.Test.YtggcpoleklcmkaaGreatDoorX13
import Derived.Test.YtggcpoleklcmkaaGreatDoorX3
import Derived.Test.YtggcpoleklcmkaaGreatDoorX9
import Derived.Test.YtggcpoleklcmkaaGreatDoorX4
set_option linter.unusedVariables false
set_option linter.unusedSimpArgs false
set_option maxRecDepth 100000
set_option maxHeartbeats 8000000
namespace Go.Dc
open Go.Sl Go.Ls Go.Tr
def mset (top : Nd) (at_ : Int → Option Atr) (c : Cm) : (Int → Option Atr) × Int :=
 if c.id = 0 then (at_, 30)
 else if (Nd.find c.id top).isSome = false then (at_, 31)
 else if 8 ≤ c.kind ∧ ((Nd.find c.id top).getD Nd.zero).grp = true then (at_, 33)
 else if (change ((at_ c.id).getD Atr.z) c).2.2 ≠ 0 then (at_, (change ((at_ c.id).getD Atr.z) c).2.2)
 else (upAt at_ c.id (change ((at_ c.id).getD Atr.z) c).1, 0)
end Go.Dc
namespace Go.Proofs.YtggcpoleklcmkaaGreatDoor
open Go.Sl Go.Ls Go.Tr Go.Dc
attribute [local irreducible] WC WL WX WK WA WAK Val Ctr RunRes ResIs Rd At sl box pt Exit.then Exit.inBlock bodyPost Code.wp wpList
abbrev mbox (g mb : Nat) (top : Nd) (kv : Value) : HP := box g 80 [vi top.id, .bool top.grp, kv, .map (some mb)]
def MsetR (q : (Int → Option Atr) × Int) (M : HP) (mb : Nat) : Value → Mem → List HP → Prop := fun v I' L' => ∃ f' cnt', v = vi q.2 ∧ L' = [M, mp mb f' cnt'] ∧ AtRep I' q.1 f'
theorem mSet (top : Nd) (kv : Value) (at_ : Int → Option Atr) (f : Int → Option Value) (g mb cnt : Nat) (c : Cm) (e t u dd q : Value) (I : Mem) (hN : NeedAt I) (hsz : top.size ≤ 1000000000) (hit : I64 top.id) (hkv : LsAt Nd.Rp I top.kids kv) (hat : AtRep I at_ f) (hc : c.at_ I e t u dd q) (hk6 : 6 ≤ c.kind) (hk12 : c.kind ≤ 12) :
  Ctr Tryz.prog 107 [ptr g, .agg (c.cs e t u dd q).toArray] I [mbox g mb top kv, mp mb f cnt] (MsetR (mset top at_ c) (mbox g mb top kv) mb) := by
 have hca := hc.atr
 have hkv0 := hkv
 obtain ⟨ka, kc, rfl⟩ := hkv.sl
 obtain ⟨x0, y0, x1, y1, x2, y2, x3, y3, x4, y4, rfl, rfl, rfl, rfl, rfl⟩ := hc.sl
 obtain ⟨ta, ua, da, qa, hv, haa⟩ := hat.get c.id
 have hms : mset top at_ c = if c.id = 0 then (at_, 30) else if (Nd.find c.id top).isSome = false then (at_, 31)
   else if 8 ≤ c.kind ∧ ((Nd.find c.id top).getD Nd.zero).grp = true then (at_, 33)
   else if (change ((at_ c.id).getD Atr.z) c).2.2 ≠ 0 then (at_, (change ((at_ c.id).getD Atr.z) c).2.2)
   else (upAt at_ c.id (change ((at_ c.id).getD Atr.z) c).1, 0) := rfl
 rw [hms]
 clear hms
 generalize (at_ c.id).getD Atr.z = a at hv haa ⊢
 have haa0 := haa
 obtain ⟨a1, c1, a2, c2, a3, c3, a4, c4, rfl, rfl, rfl, rfl⟩ := haa.sl
 refine Ctr.intro Tryz.func107 rfl rfl rfl fun E F => ?_
 refine jS (WL.boxA rfl rfl (fun _ => ?_))
 refine jW ?_
 refine jf rfl (jM (jB ?_))
 rename_i g3
 refine WC.cutP (fun ρ' I' L' => ∃ (g5 : Nat) (fa : Option Addr) (fc : Nat), I' = I ∧ ρ' 0 = ptr g ∧ ρ' 3 = ptr g3 ∧ ρ' 5 = ptr g5 ∧ ρ' 6 = .bool (Nd.find c.id top).isSome ∧
  L' = [F, mbox g mb top (.slice ka top.kids.length kc), mp mb f cnt, box g3 59 (c.cs (.slice x0 c.ents.length y0) (.slice x1 c.atr.sty.fill.stops.length y1) (.slice x2 c.atr.sty.pen.stops.length y2) (.slice x3 c.atr.sty.dash.length y3) (.slice x4 c.atr.path.length y4)), box g5 77 [vi ((Nd.find c.id top).getD Nd.zero).id, .bool ((Nd.find c.id top).getD Nd.zero).grp, .slice fa ((Nd.find c.id top).getD Nd.zero).kids.length fc]]) ?_ ?_
 ·skip
  refine j8 999 [1, 2] rfl (jT 0 rfl (Val.moveP rfl) (jT 1 rfl (jr rfl) (jT 2 rfl (jn rfl) (jT 3 rfl (jt 0 rfl rfl rfl) (jT 4 rfl (jn rfl) (jT 5 rfl (jp 1 rfl rfl rfl) ?_))))))
  refine jee 6 10 rfl rfl ?_ ?_
  ·skip
   refine WL.callS rfl rfl (rFind c.id _ top (Nat.le_refl _) _ _ (by omega) hit hkv0) rfl ?_
   rintro _ hF
   obtain ⟨fkv, rfl, hfi, hfk⟩ := fnd_getD hF
   obtain ⟨fa, fc, rfl⟩ := hfk.sl
   refine jC (j7 [1, 2] rfl (jT 7 rfl (Val.moveT rfl) (jT 8 rfl (Val.extractA rfl rfl) (jT 9 rfl (Val.extractB rfl rfl) (j5 10 rfl (WL.alloc rfl (fun _ => ?_)))))))
   rename_i g5
   refine jW ?_
   refine jC (j7 [1, 2] rfl (j5 11 rfl (WL.stA 4 rfl rfl rfl rfl ?_)))
   refine jC (j7 [1, 2] rfl (jT 12 rfl (Val.assignB rfl) (j6 ?_)))
   refine WX.thenK (WK.meet ?_)
   exact ⟨g5, fa, fc, rfl, rfl, rfl, rfl, rfl, rfl⟩
  ·skip
   refine WL.alloc rfl (fun _ => ?_)
   rename_i g5
   refine jW ?_
   refine jC (j7 [1, 2] rfl (j5 6 rfl (WL.callS rfl rfl (rFind c.id _ top (Nat.le_refl _) _ _ (by omega) hit hkv0) rfl ?_)))
   rintro _ hF
   obtain ⟨fkv, rfl, hfi, hfk⟩ := fnd_getD hF
   obtain ⟨fa, fc, rfl⟩ := hfk.sl
   refine jC (j7 [1, 2] rfl (jT 7 rfl (Val.moveT rfl) (jT 8 rfl (Val.extractA rfl rfl) (jT 9 rfl (Val.extractB rfl rfl) (j5 11 rfl (WL.stA 4 rfl rfl rfl rfl ?_))))))
   refine jC (j7 [1, 2] rfl (jT 12 rfl (Val.assignB rfl) (j6 ?_)))
   refine WX.thenK (WK.meet ?_)
   exact ⟨g5, fa, fc, rfl, rfl, rfl, rfl, rfl, rfl⟩
 rintro ρ' I' L' ⟨g5, fa, fc, rfl, r0, r3, r5, r6, rfl⟩
 refine ju4 r6 r5 r3 r0 ?_
 by_cases h0 : c.id = 0
 ·rw [if_pos h0]
  refine jB (WC.block (jS (jm (jn rfl) (jm (jp 3 rfl rfl rfl) (jw rfl rfl (jg rfl (jM (jF (jS (jf rfl (jM (jR (WX.inRet (jU ?_))))))))))))))
  exact jP [0, 0] (jr1 rfl (jtI rfl)) ⟨f, cnt, rfl, rfl, hat⟩
 rw [if_neg h0]
 cases hfs : (Nd.find c.id top).isSome with
 | false =>
  rw [if_pos rfl]
  refine jB (WC.block (jS (jm (jn rfl) (jm (jp 3 rfl rfl rfl) (jv rfl rfl (jg rfl (jM (jE (jS (jb rfl (jl rfl (jg rfl (jM (jF (jS (jf rfl (jM (jR (WX.inRet (jU ?_))))))))))))))))))))
  exact jP [0, 0] (jr1 rfl (jtI rfl)) ⟨f, cnt, rfl, rfl, hat⟩
 | true =>
  rw [if_neg (by decide)]
  generalize (Nd.find c.id top).getD Nd.zero = nd
  by_cases h8 : 8 ≤ c.kind
  ·cases hg : nd.grp with
   | true =>
    rw [if_pos ⟨h8, rfl⟩]
    refine jB (WC.block (jS (jm (jn rfl) (jm (jp 3 rfl rfl rfl) (jv rfl rfl (jg rfl (jM (jE (jS (jb rfl (jl rfl (jg rfl (jM (jE (jS (jm (jn rfl) (jm (jp 3 rfl rfl rfl) (jm (Val.geq rfl rfl (decide_eq_true (by omega))) ?_))))))))))))))))))
    refine jb rfl (jG (jm (jn rfl) (jG (jm (jp 4 rfl rfl rfl) (jk rfl (jg rfl (jM (jF (jS (jf rfl (jM (jR (WX.inRet (jU ?_))))))))))))))
    exact jP [0, 0] (jr1 rfl (jtI rfl)) ⟨f, cnt, rfl, rfl, hat⟩
   | false =>
    rw [if_neg (fun e => by cases e.2)]
    refine jB (WC.block (jS (jm (jn rfl) (jm (jp 3 rfl rfl rfl) (jv rfl rfl (jg rfl (jM (jE (jS (jb rfl (jl rfl (jg rfl (jM (jE (jS (jm (jn rfl) (jm (jp 3 rfl rfl rfl) (jm (Val.geq rfl rfl (decide_eq_true (by omega))) ?_))))))))))))))))))
    refine jb rfl (jG (jm (jn rfl) (jG (jm (jp 4 rfl rfl rfl) (jk rfl (jg rfl (jM (jE (jV (WX.inNormal (jA (jB (j8 999 [1, 1, 1] rfl (jT 0 rfl (Val.moveP rfl) (jT 1 rfl (jr rfl) (jT 2 rfl (jn rfl) (jT 3 rfl (jp 0 rfl rfl rfl) (jT 4 rfl (jn rfl) (jT 5 rfl (jp 2 rfl rfl rfl) (jT 6 rfl (Val.lookup1v 1 hv rfl rfl rfl) ?_))))))))))))))))))))
    refine j5 7 rfl (WL.alloc rfl (fun _ => ?_))
    rename_i g7
    refine jW ?_
    refine jC (j7 [1, 1, 1] rfl (j5 8 rfl (WL.stA 5 rfl rfl rfl rfl ?_)))
    refine jC (j7 [1, 1, 1] rfl (j6 ?_))
    have hk : c.kind = 8 ∨ c.kind = 9 ∨ c.kind = 10 ∨ c.kind = 11 ∨ c.kind = 12 := by omega
    rcases hk with hk | hk | hk | hk | hk
    ·rw [show change a c = ({ a with path := c.atr.path }, { Cm.z with kind := 8, atr := { Atr.z with path := a.path } }, pathCheck c.atr.path) by rw [change, if_neg (by omega), if_neg (by omega), if_pos hk]]
     simp only
     refine jK (jf rfl (jM (jB (jS (jm (jn rfl) (jm (jp 3 rfl rfl rfl) (jM (WC.block (jCf rfl rfl (jCf rfl rfl (jS (jw rfl rfl (jg rfl (jM (jF (jS (jm (jn rfl) (jm (jn rfl) (jm (jp 3 rfl rfl rfl) (jm (jn rfl) (WL.stS 5 rfl rfl rfl rfl ?_)))))))))))))))))))))
     refine jM (jD (jm (jn rfl) (jm (jp 5 rfl rfl rfl) (WL.callS rfl rfl (path_ctr c.atr.path _ _ hN hca.path) rfl ?_))))
     rintro _ rfl
     by_cases he : pathCheck c.atr.path = 0
     ·rw [if_neg (fun e => e he)]
      refine jf rfl (jC (WX.inNormal (jA (jB (jS (ja rfl (jw rfl rfl (jM (jF (j8 999 [1, 2, 3] rfl (jT 0 rfl (Val.moveP rfl) (jT 1 rfl (jr rfl) (jT 2 rfl (jn rfl) (jT 3 rfl (jp 0 rfl rfl rfl) (jT 4 rfl (jn rfl) (jT 5 rfl (jp 1 rfl rfl rfl) (jT 6 rfl (jt 2 rfl rfl rfl) (j5 7 rfl (WL.mapUpdate 2 rfl rfl rfl ?_)))))))))))))))))))
      refine WL.nSet ?_
      refine jC (j7 [1, 2, 3] rfl (j6 (jK (ja rfl (jf rfl (jM (jR ?_)))))))
      exact jP [0, 0] (jr1 rfl (jtI rfl)) ⟨_, _, by rw [he], rfl, hat.up (a := { a with path := c.atr.path }) ⟨_, _, _, _, rfl, ⟨haa0.mtx, haa0.sty, hca.path⟩⟩ _⟩
     ·rw [if_pos he]
      refine jf rfl (jC (WX.inNormal (jA (jB (jS (ja rfl (jv rfl rfl (jM (jE (jV (jK (ja rfl (jf rfl (jM (jR ?_)))))))))))))))
      exact jP [0, 0] (jr1 rfl (jtI rfl)) ⟨f, cnt, rfl, rfl, hat⟩
    ·have hch : (change a c).1 = { a with path := (pathInsert a.path c.i c.seg).1 } ∧ (change a c).2.2 = (pathInsert a.path c.i c.seg).2 := by
      rw [change]
      rw [if_neg (by omega), if_neg (by omega), if_neg (by omega), if_pos hk]
      exact ⟨rfl, rfl⟩
     rw [hch.1, hch.2]
     clear hch
     refine jK (jf rfl (jM (jB (jS (jm (jn rfl) (jm (jp 3 rfl rfl rfl) (jM (WC.block (jCf rfl rfl (jCf rfl rfl (jCf rfl rfl (jS (jw rfl rfl (jg rfl (jM (jF (jD (jm (jn rfl) (jm (jp 5 rfl rfl rfl) (jm (jn rfl) (jm (jp 3 rfl rfl rfl) (jm (jn rfl) (jm (jt 3 rfl rfl rfl) (WL.callR [] rfl rfl rfl (pInsert a.path c.i c.seg _ _ hN haa0.path hc.seg) rfl ?_))))))))))))))))))))))))
     rintro _ I3 hI3 hP
     generalize pathInsert a.path c.i c.seg = pr at *
     obtain ⟨w, rfl, hw⟩ := hP
     have hw0 := hw
     obtain ⟨wa, wc, rfl⟩ := hw.sl
     by_cases he : pr.2 = 0
     ·rw [if_neg (fun e => e he)]
      refine je rfl (jm (Val.extractS rfl rfl) (jm (jq rfl rfl) (jm (jn rfl) (WL.stS 5 rfl rfl rfl rfl ?_))))
      refine jf rfl (jC (WX.inNormal (jA (jB (jS (ja rfl (jw rfl rfl (jM (jF (j8 999 [1, 2, 3] rfl (jT 0 rfl (Val.moveP rfl) (jT 1 rfl (jr rfl) (jT 2 rfl (jn rfl) (jT 3 rfl (jp 0 rfl rfl rfl) (jT 4 rfl (jn rfl) (jT 5 rfl (jp 1 rfl rfl rfl) (jT 6 rfl (jt 2 rfl rfl rfl) (j5 7 rfl (WL.mapUpdate 2 rfl rfl rfl ?_)))))))))))))))))))
      refine WL.nSet ?_
      refine jC (j7 [1, 2, 3] rfl (j6 (jK (ja rfl (jf rfl (jM (jR ?_)))))))
      exact jP [0, 0] (jr1 rfl (jtI rfl)) ⟨_, _, by rw [he], rfl, (hat.mono hI3).up (a := { a with path := pr.1 }) ⟨_, _, _, _, rfl, ⟨haa0.mtx, haa0.sty.mono hI3, hw0⟩⟩ _⟩
     ·rw [if_pos he]
      refine je rfl (jm (Val.extractS rfl rfl) (jm (jq rfl rfl) (jm (jn rfl) (WL.stS 5 rfl rfl rfl rfl ?_))))
      refine jf rfl (jC (WX.inNormal (jA (jB (jS (ja rfl (jv rfl rfl (jM (jE (jV (jK (ja rfl (jf rfl (jM (jR ?_)))))))))))))))
      exact jP [0, 0] (jr1 rfl (jtI rfl)) ⟨f, cnt, rfl, rfl, hat.mono hI3⟩
    ·have hch : (change a c).1 = { a with path := (pathDelete a.path c.i).1 } ∧ (change a c).2.2 = (pathDelete a.path c.i).2 := by
      rw [change]
      rw [if_neg (by omega), if_neg (by omega), if_neg (by omega), if_neg (by omega), if_pos hk]
      exact ⟨rfl, rfl⟩
     rw [hch.1, hch.2]
     clear hch
     refine jK (jf rfl (jM (jB (jS (jm (jn rfl) (jm (jp 3 rfl rfl rfl) (jM (WC.block (jCf rfl rfl (jCf rfl rfl (jCf rfl rfl (jCf rfl rfl (jS (jw rfl rfl (jg rfl (jM (jF (jD (jm (jn rfl) (jm (jp 5 rfl rfl rfl) (jm (jn rfl) (jm (jp 3 rfl rfl rfl) (WL.callR [] rfl rfl rfl (pDelete a.path c.i _ _ hN haa0.path) rfl ?_)))))))))))))))))))))))
     rintro _ I3 hI3 hP
     generalize pathDelete a.path c.i = pr at *
     obtain ⟨w, rfl, hw⟩ := hP
     have hw0 := hw
     obtain ⟨wa, wc, rfl⟩ := hw.sl
     by_cases he : pr.2 = 0
     ·rw [if_neg (fun e => e he)]
      refine je rfl (jm (Val.extractS rfl rfl) (jm (jq rfl rfl) (jm (jn rfl) (WL.stS 5 rfl rfl rfl rfl ?_))))
      refine jf rfl (jC (WX.inNormal (jA (jB (jS (ja rfl (jw rfl rfl (jM (jF (j8 999 [1, 2, 3] rfl (jT 0 rfl (Val.moveP rfl) (jT 1 rfl (jr rfl) (jT 2 rfl (jn rfl) (jT 3 rfl (jp 0 rfl rfl rfl) (jT 4 rfl (jn rfl) (jT 5 rfl (jp 1 rfl rfl rfl) (jT 6 rfl (jt 2 rfl rfl rfl) (j5 7 rfl (WL.mapUpdate 2 rfl rfl rfl ?_)))))))))))))))))))
      refine WL.nSet ?_
      refine jC (j7 [1, 2, 3] rfl (j6 (jK (ja rfl (jf rfl (jM (jR ?_)))))))
      exact jP [0, 0] (jr1 rfl (jtI rfl)) ⟨_, _, by rw [he], rfl, (hat.mono hI3).up (a := { a with path := pr.1 }) ⟨_, _, _, _, rfl, ⟨haa0.mtx, haa0.sty.mono hI3, hw0⟩⟩ _⟩
     ·rw [if_pos he]
      refine je rfl (jm (Val.extractS rfl rfl) (jm (jq rfl rfl) (jm (jn rfl) (WL.stS 5 rfl rfl rfl rfl ?_))))
      refine jf rfl (jC (WX.inNormal (jA (jB (jS (ja rfl (jv rfl rfl (jM (jE (jV (jK (ja rfl (jf rfl (jM (jR ?_)))))))))))))))
      exact jP [0, 0] (jr1 rfl (jtI rfl)) ⟨f, cnt, rfl, rfl, hat.mono hI3⟩
    ·have hch : (change a c).1 = { a with path := (pathPut a.path c.i c.k c.point).1 } ∧ (change a c).2.2 = (pathPut a.path c.i c.k c.point).2 := by
      rw [change]
      rw [if_neg (by omega), if_neg (by omega), if_neg (by omega), if_neg (by omega), if_neg (by omega), if_pos hk]
      exact ⟨rfl, rfl⟩
     rw [hch.1, hch.2]
     clear hch
     refine jK (jf rfl (jM (jB (jS (jm (jn rfl) (jm (jp 3 rfl rfl rfl) (jM (WC.block (jCf rfl rfl (jCf rfl rfl (jCf rfl rfl (jCf rfl rfl (jCf rfl rfl (jS (jw rfl rfl (jg rfl (jM (jF (jD (jm (jn rfl) (jm (jp 5 rfl rfl rfl) (jm (jn rfl) (jm (jp 3 rfl rfl rfl) (jm (jn rfl) (jm (jp 3 rfl rfl rfl) (jm (jn rfl) (jm (jt 3 rfl rfl rfl) (WL.callR [] rfl rfl rfl (pPut a.path c.i c.k c.point _ _ hN haa0.path hc.point) rfl ?_))))))))))))))))))))))))))))
     rintro _ I3 hI3 hP
     generalize pathPut a.path c.i c.k c.point = pr at *
     obtain ⟨w, rfl, hw⟩ := hP
     have hw0 := hw
     obtain ⟨wa, wc, rfl⟩ := hw.sl
     by_cases he : pr.2 = 0
     ·rw [if_neg (fun e => e he)]
      refine je rfl (jm (Val.extractS rfl rfl) (jm (jq rfl rfl) (jm (jn rfl) (WL.stS 5 rfl rfl rfl rfl ?_))))
      refine jf rfl (jC (WX.inNormal (jA (jB (jS (ja rfl (jw rfl rfl (jM (jF (j8 999 [1, 2, 3] rfl (jT 0 rfl (Val.moveP rfl) (jT 1 rfl (jr rfl) (jT 2 rfl (jn rfl) (jT 3 rfl (jp 0 rfl rfl rfl) (jT 4 rfl (jn rfl) (jT 5 rfl (jp 1 rfl rfl rfl) (jT 6 rfl (jt 2 rfl rfl rfl) (j5 7 rfl (WL.mapUpdate 2 rfl rfl rfl ?_)))))))))))))))))))
      refine WL.nSet ?_
      refine jC (j7 [1, 2, 3] rfl (j6 (jK (ja rfl (jf rfl (jM (jR ?_)))))))
      exact jP [0, 0] (jr1 rfl (jtI rfl)) ⟨_, _, by rw [he], rfl, (hat.mono hI3).up (a := { a with path := pr.1 }) ⟨_, _, _, _, rfl, ⟨haa0.mtx, haa0.sty.mono hI3, hw0⟩⟩ _⟩
     ·rw [if_pos he]
      refine je rfl (jm (Val.extractS rfl rfl) (jm (jq rfl rfl) (jm (jn rfl) (WL.stS 5 rfl rfl rfl rfl ?_))))
      refine jf rfl (jC (WX.inNormal (jA (jB (jS (ja rfl (jv rfl rfl (jM (jE (jV (jK (ja rfl (jf rfl (jM (jR ?_)))))))))))))))
      exact jP [0, 0] (jr1 rfl (jtI rfl)) ⟨f, cnt, rfl, rfl, hat.mono hI3⟩
    ·have hch : (change a c).1 = { a with path := (pathSplit a.path c.i).1 } ∧ (change a c).2.2 = (pathSplit a.path c.i).2 := by
      rw [change]
      rw [if_neg (by omega), if_neg (by omega), if_neg (by omega), if_neg (by omega), if_neg (by omega), if_neg (by omega)]
      exact ⟨rfl, rfl⟩
     rw [hch.1, hch.2]
     clear hch
     refine jK (jf rfl (jM (jB (jS (jm (jn rfl) (jm (jp 3 rfl rfl rfl) (jM (WC.block (jCf rfl rfl (jCf rfl rfl (jCf rfl rfl (jCf rfl rfl (jCf rfl rfl (jCf rfl rfl (jS (jw rfl rfl (jg rfl (jM (jF (jD (jm (jn rfl) (jm (jp 5 rfl rfl rfl) (jm (jn rfl) (jm (jp 3 rfl rfl rfl) (WL.callR [] rfl rfl rfl (pSplit a.path c.i _ _ hN haa0.path) rfl ?_)))))))))))))))))))))))))
     rintro _ I3 hI3 hP
     generalize pathSplit a.path c.i = pr at *
     obtain ⟨w, rfl, hw⟩ := hP
     have hw0 := hw
     obtain ⟨wa, wc, rfl⟩ := hw.sl
     by_cases he : pr.2 = 0
     ·rw [if_neg (fun e => e he)]
      refine je rfl (jm (Val.extractS rfl rfl) (jm (jq rfl rfl) (jm (jn rfl) (WL.stS 5 rfl rfl rfl rfl ?_))))
      refine jf rfl (jC (WX.inNormal (jA (jB (jS (ja rfl (jw rfl rfl (jM (jF (j8 999 [1, 2, 3] rfl (jT 0 rfl (Val.moveP rfl) (jT 1 rfl (jr rfl) (jT 2 rfl (jn rfl) (jT 3 rfl (jp 0 rfl rfl rfl) (jT 4 rfl (jn rfl) (jT 5 rfl (jp 1 rfl rfl rfl) (jT 6 rfl (jt 2 rfl rfl rfl) (j5 7 rfl (WL.mapUpdate 2 rfl rfl rfl ?_)))))))))))))))))))
      refine WL.nSet ?_
      refine jC (j7 [1, 2, 3] rfl (j6 (jK (ja rfl (jf rfl (jM (jR ?_)))))))
      exact jP [0, 0] (jr1 rfl (jtI rfl)) ⟨_, _, by rw [he], rfl, (hat.mono hI3).up (a := { a with path := pr.1 }) ⟨_, _, _, _, rfl, ⟨haa0.mtx, haa0.sty.mono hI3, hw0⟩⟩ _⟩
     ·rw [if_pos he]
      refine je rfl (jm (Val.extractS rfl rfl) (jm (jq rfl rfl) (jm (jn rfl) (WL.stS 5 rfl rfl rfl rfl ?_))))
      refine jf rfl (jC (WX.inNormal (jA (jB (jS (ja rfl (jv rfl rfl (jM (jE (jV (jK (ja rfl (jf rfl (jM (jR ?_)))))))))))))))
      exact jP [0, 0] (jr1 rfl (jtI rfl)) ⟨f, cnt, rfl, rfl, hat.mono hI3⟩
  ·rw [if_neg (fun e => h8 e.1)]
   refine jB (WC.block (jS (jm (jn rfl) (jm (jp 3 rfl rfl rfl) (jv rfl rfl (jg rfl (jM (jE (jS (jb rfl (jl rfl (jg rfl (jM (jE (jS (jm (jn rfl) (jm (jp 3 rfl rfl rfl) (jm (Val.geq rfl rfl (decide_eq_false (by omega))) ?_))))))))))))))))))
   refine jb rfl (jH (jH (jk rfl (jg rfl (jM (jE (jV (WX.inNormal (jA (jB (j8 999 [1, 1, 1] rfl (jT 0 rfl (Val.moveP rfl) (jT 1 rfl (jr rfl) (jT 2 rfl (jn rfl) (jT 3 rfl (jp 0 rfl rfl rfl) (jT 4 rfl (jn rfl) (jT 5 rfl (jp 2 rfl rfl rfl) (jT 6 rfl (Val.lookup1v 1 hv rfl rfl rfl) ?_))))))))))))))))))
   refine j5 7 rfl (WL.alloc rfl (fun _ => ?_))
   rename_i g7
   refine jW ?_
   refine jC (j7 [1, 1, 1] rfl (j5 8 rfl (WL.stA 5 rfl rfl rfl rfl ?_)))
   refine jC (j7 [1, 1, 1] rfl (j6 ?_))
   have hk : c.kind = 6 ∨ c.kind = 7 := by omega
   rcases hk with hk | hk
   ·rw [show change a c = ({ a with mtx := c.atr.mtx }, { Cm.z with kind := 6, atr := { Atr.z with mtx := a.mtx } }, if c.atr.mtx.right then 0 else 10) by rw [change, if_pos hk]]
    simp only
    refine jK (jf rfl (jM (jB (jS (jm (jn rfl) (jm (jp 3 rfl rfl rfl) (jM (WC.block (jS (jw rfl rfl (jg rfl (jM (jF (jS (jm (jn rfl) (jm (jn rfl) (jm (jt 3 rfl rfl rfl) (jm (jn rfl) (WL.stA 5 rfl rfl rfl rfl ?_)))))))))))))))))))
    refine jN (jm (jn rfl) (jm (jt 5 rfl rfl rfl) ?_))
    refine WL.callE rfl rfl (mtxRight_ctr c.atr.mtx _) rfl (fun hs => ?_) (fun hs => ?_)
    ·rw [if_pos hs, if_neg (by decide)]
     refine jl rfl (jM (jE (jV (WX.inNormal (jA (jB (jS (ja rfl (jw rfl rfl (jM (jF (j8 999 [1, 2, 3] rfl (jT 0 rfl (Val.moveP rfl) (jT 1 rfl (jr rfl) (jT 2 rfl (jn rfl) (jT 3 rfl (jp 0 rfl rfl rfl) (jT 4 rfl (jn rfl) (jT 5 rfl (jp 1 rfl rfl rfl) (jT 6 rfl (jt 2 rfl rfl rfl) (j5 7 rfl (WL.mapUpdate 2 rfl rfl rfl ?_)))))))))))))))))))))
     refine WL.nSet ?_
     refine jC (j7 [1, 2, 3] rfl (j6 (jK (ja rfl (jf rfl (jM (jR ?_)))))))
     exact jP [0, 0] (jr1 rfl (jtI rfl)) ⟨_, _, rfl, rfl, hat.up (a := { a with mtx := c.atr.mtx }) ⟨_, _, _, _, rfl, ⟨hca.mtx, haa0.sty, haa0.path⟩⟩ _⟩
    ·rw [if_neg hs, if_pos (by decide)]
     refine jl rfl (jM (jF (jD (jf rfl (jC (WX.inNormal (jA (jB (jS (ja rfl (jv rfl rfl (jM (jE (jV (jK (ja rfl (jf rfl (jM (jR ?_)))))))))))))))))))
     exact jP [0, 0] (jr1 rfl (jtI rfl)) ⟨f, cnt, rfl, rfl, hat⟩
   ·rw [show change a c = ({ a with sty := c.atr.sty }, { Cm.z with kind := 7, atr := { Atr.z with sty := a.sty } }, c.atr.sty.check) by rw [change, if_neg (by omega), if_pos hk]]
    simp only
    refine jK (jf rfl (jM (jB (jS (jm (jn rfl) (jm (jp 3 rfl rfl rfl) (jM (WC.block (jCf rfl rfl (jS (jw rfl rfl (jg rfl (jM (jF (jS (jm (jn rfl) (jm (jn rfl) (jm (jt 3 rfl rfl rfl) (jm (jn rfl) (WL.stA 5 rfl rfl rfl rfl ?_))))))))))))))))))))
    refine jM (jD (jm (jn rfl) (jm (jt 5 rfl rfl rfl) (WL.callS rfl rfl (sty_ctr c.atr.sty _ _ _ _ hca.sty) rfl ?_))))
    rintro _ rfl
    by_cases he : c.atr.sty.check = 0
    ·rw [if_neg (fun e => e he)]
     refine jf rfl (jC (WX.inNormal (jA (jB (jS (ja rfl (jw rfl rfl (jM (jF (j8 999 [1, 2, 3] rfl (jT 0 rfl (Val.moveP rfl) (jT 1 rfl (jr rfl) (jT 2 rfl (jn rfl) (jT 3 rfl (jp 0 rfl rfl rfl) (jT 4 rfl (jn rfl) (jT 5 rfl (jp 1 rfl rfl rfl) (jT 6 rfl (jt 2 rfl rfl rfl) (j5 7 rfl (WL.mapUpdate 2 rfl rfl rfl ?_)))))))))))))))))))
     refine WL.nSet ?_
     refine jC (j7 [1, 2, 3] rfl (j6 (jK (ja rfl (jf rfl (jM (jR ?_)))))))
     exact jP [0, 0] (jr1 rfl (jtI rfl)) ⟨_, _, by rw [he], rfl, hat.up (a := { a with sty := c.atr.sty }) ⟨_, _, _, _, rfl, ⟨haa0.mtx, hca.sty, haa0.path⟩⟩ _⟩
    ·rw [if_pos he]
     refine jf rfl (jC (WX.inNormal (jA (jB (jS (ja rfl (jv rfl rfl (jM (jE (jV (jK (ja rfl (jf rfl (jM (jR ?_)))))))))))))))
     exact jP [0, 0] (jr1 rfl (jtI rfl)) ⟨f, cnt, rfl, rfl, hat⟩
end Go.Proofs.YtggcpoleklcmkaaGreatDoor

namespace Go.Dc
open Go.Sl Go.Ls Go.Tr
def mdo (top : Nd) (at_ : Int → Option Atr) (c : Cm) : Nd × (Int → Option Atr) × Int :=
 if c.kind = 1 then
  if ¬ Whole c.ents then (top, at_, 20)
  else if firstWrong c.ents ≠ 0 then (top, at_, firstWrong c.ents)
  else ((Nd.add top c.parent c.index (nodeOf c.ents)).1, if (Nd.add top c.parent c.index (nodeOf c.ents)).2 = 0 then putAll at_ c.ents else at_, (Nd.add top c.parent c.index (nodeOf c.ents)).2)
 else if c.kind = 2 then ((Nd.remove top c.id).1, at_, (Nd.remove top c.id).2.2.2.2)
 else if c.kind = 3 then ((Nd.move top c.id c.parent c.index).1, at_, (Nd.move top c.id c.parent c.index).2)
 else if c.kind = 4 then
  if c.atr.check true ≠ 0 then (top, at_, c.atr.check true)
  else ((Nd.wrap top c.id c.parent c.index c.count).1, if (Nd.wrap top c.id c.parent c.index c.count).2 = 0 then upAt at_ c.id c.atr else at_, (Nd.wrap top c.id c.parent c.index c.count).2)
 else if c.kind = 5 then ((Nd.unwrap top c.id).1, at_, (Nd.unwrap top c.id).2.2.2.2)
 else if 6 ≤ c.kind ∧ c.kind ≤ 12 then (top, (mset top at_ c).1, (mset top at_ c).2)
 else (top, at_, 33)
end Go.Dc
namespace Go.Proofs.YtggcpoleklcmkaaGreatDoor
open Go.Sl Go.Ls Go.Tr Go.Dc
attribute [local irreducible] WC WL WX WK WA WAK Val Ctr RunRes ResIs Rd At sl box pt Exit.then Exit.inBlock bodyPost Code.wp wpList
def MdoR (q : Nd × (Int → Option Atr) × Int) (g mb : Nat) : Value → Mem → List HP → Prop := fun v I' L' => ∃ kv' f' cnt', v = vi q.2.2 ∧ L' = [mbox g mb q.1 kv', mp mb f' cnt'] ∧ LsAt Nd.Rp I' q.1.kids kv' ∧ AtRep I' q.2.1 f'
theorem mDo (A : Ar) (top : Nd) (hA : Abs A top) (kv : Value) (at_ : Int → Option Atr) (f : Int → Option Value) (g mb cnt : Nat) (c : Cm) (e t u dd q : Value) (I : Mem) (hN : NeedAt I) (hkv : LsAt Nd.Rp I top.kids kv) (hat : AtRep I at_ f) (hc : c.at_ I e t u dd q) (hle : c.ents.length ≤ 100000) :
  Ctr Tryz.prog 65 [ptr g, .agg (c.cs e t u dd q).toArray] I [mbox g mb top kv, mp mb f cnt] (MdoR (mdo top at_ c) g mb) := by
 have hca := hc.atr
 have hce := hc.ents
 have hc0 := hc
 have hkv0 := hkv
 have hsz := hA.size_le
 have hit : I64 top.id := by rw [hA.id0]; exact ⟨by decide, by decide⟩
 have hhas := hA.has c.id
 obtain ⟨hrs, hrs2⟩ := hA.remSize c.id
 obtain ⟨ka, kc, rfl⟩ := hkv.sl
 obtain ⟨x0, y0, x1, y1, x2, y2, x3, y3, x4, y4, rfl, rfl, rfl, rfl, rfl⟩ := hc.sl
 refine Ctr.intro Tryz.func65 rfl rfl rfl fun E F => ?_
 by_cases k1 : c.kind = 1
 ·rw [mdo, if_pos k1]
  refine jS (WL.boxA rfl rfl (fun _ => ?_))
  refine jW ?_
  refine jf rfl (jN (jf rfl (jN (jd rfl (jm (jr rfl) (jm (jn rfl) (jm (jt 1 rfl rfl rfl) (WL.alloc rfl (fun _ => ?_)))))))))
  refine jW ?_
  refine WL.stA 4 rfl rfl rfl rfl ?_
  refine jM (jB (jS (jm (jn rfl) (jm (jp 3 rfl rfl rfl) (jM (WC.block (jS (jw rfl rfl (jg rfl (jM (jF (jS (jm (jn rfl) (jm (jp 3 rfl rfl rfl) ?_))))))))))))))
  rename_i g3 g6
  refine WL.callR [] rfl rfl rfl (refs_ctr c.ents _ _ hce (by omega)) rfl ?_
  rintro v1 I1 hI1 hre
  skip
  refine WL.callR [] rfl rfl rfl (take_ctr _ c.ents (Nat.le_refl _) _ _ hre (by omega)) rfl ?_
  rintro _ I2 hI2 ⟨nv, rfl, hnv, hni⟩
  have hnv0 := hnv
  by_cases hW : Whole c.ents
  case neg =>
   rw [if_pos hW]
   have hcase : (takeR c.ents).2 = 0 ∨ (takeR c.ents).2 ≠ c.ents.length := by
    cases hT : Tk c.ents with
    | none => rw [takeR_none hT]; exact .inl rfl
    | some p =>
     obtain ⟨n, r⟩ := p
     rw [takeR_some hT]
     refine .inr fun e => hW ((Whole_iff _).2 ⟨n, ?_⟩)
     simp only at e
     rw [hT, List.eq_nil_of_length_eq_zero (show r.length = 0 by omega)]
   obtain ⟨na, nc, rfl⟩ := hnv.sl
   have hJ := hI1.trans hI2
   by_cases h0 : (takeR c.ents).2 = 0
   ·skip
    refine je rfl (jm (Val.extractA rfl rfl) (jm (jq rfl rfl) (WL.alloc rfl (fun _ => ?_))))
    refine jW ?_
    refine WL.stA 5 rfl rfl rfl rfl ?_
    refine jf rfl (jM (jB (jS (ja rfl (jw rfl rfl (jb rfl (jH (jH (jH (jH (jH (jk rfl (jM (jF (jS (jf rfl (jM (jR (jU (WX.inRet (jU ?_)))))))))))))))))))))
    exact jP [0, 0] (jr1 rfl (jtI rfl)) ⟨_, f, cnt, rfl, rfl, hkv0.mono hJ, hat.mono hJ⟩
   ·have h1 := hcase.resolve_left h0
    refine je rfl (jm (Val.extractA rfl rfl) (jm (jq rfl rfl) (WL.alloc rfl (fun _ => ?_))))
    refine jW ?_
    refine WL.stA 5 rfl rfl rfl rfl ?_
    refine jf rfl (jM (jB (jS (ja rfl (jv rfl rfl (jb rfl (jG (ja rfl (jG (jm (jn rfl) (jG (jm (jp 3 rfl rfl rfl) (jG (jm (jo rfl) (jG (jJ rfl rfl (jk rfl (jM (jF (jS (jf rfl (jM (jR (jU (WX.inRet (jU ?_))))))))))))))))))))))))))
    exact jP [0, 0] (jr1 rfl (jtI rfl)) ⟨_, f, cnt, rfl, rfl, hkv0.mono hJ, hat.mono hJ⟩
  rw [if_neg (fun e => e hW)]
  obtain ⟨nd, hnd⟩ := (Whole_iff c.ents).1 hW
  have hlt := Tk_le hnd
  simp only [List.length_nil] at hlt
  rw [takeR_some hnd] at hnv hnv0 hni ⊢
  rw [nodeOf_eq hnd]
  have hndz := Tk_size hnd
  obtain ⟨na, nc, rfl⟩ := hnv.sl
  simp only [List.length_nil] at hnv0 hni ⊢
  refine je rfl (jm (Val.extractA rfl rfl) (jm (jq rfl rfl) (WL.alloc rfl (fun _ => ?_))))
  refine jW ?_
  refine WL.stA 5 rfl rfl rfl rfl ?_
  refine jf rfl (jM (jB (jS (ja rfl (jv rfl rfl (jb rfl (jG (ja rfl (jG (jm (jn rfl) (jG (jm (jp 3 rfl rfl rfl) (jG (jm (jo rfl) (jG (jz rfl rfl (jk rfl (jM (jE (jV (jA (jB (jS (jm (jn rfl) (jm (jp 3 rfl rfl rfl) (jm (jo rfl) (ja rfl (jM (WC.block ?_)))))))))))))))))))))))))))))
  rename_i g7
  have hJ2 := hI1.trans hI2
  refine WC.loop (fun n ρ' I' L' => ∃ k : Nat, n = c.ents.length - k ∧ k ≤ c.ents.length ∧ I' = I2 ∧ ρ' 0 = ptr g ∧ ρ' 3 = ptr g3 ∧ ρ' 6 = ptr g6 ∧ ρ' 7 = ptr g7 ∧ ρ' 20 = vi c.kind ∧ ρ' 40 = .slice x0 c.ents.length y0 ∧ ρ' 41 = vi c.ents.length ∧ ρ' 42 = vi k ∧
    L' = [F, mbox g mb top (.slice ka top.kids.length kc), mp mb f cnt, box g3 59 (c.cs (.slice x0 c.ents.length y0) (.slice x1 c.atr.sty.fill.stops.length y1) (.slice x2 c.atr.sty.pen.stops.length y2) (.slice x3 c.atr.sty.dash.length y3) (.slice x4 c.atr.path.length y4)), box g6 77 [vi top.id, .bool top.grp, .slice ka top.kids.length kc], box g7 77 [vi nd.id, .bool nd.grp, .slice na nd.kids.length nc]] ∧ (∀ y ∈ c.ents.take k, y.atr.check y.grp = 0))
   c.ents.length ⟨0, rfl, by omega, rfl, rfl, rfl, rfl, rfl, rfl, rfl, rfl, rfl, rfl, fun y hy => by simp at hy⟩ ?_
  rintro n ρ' I0 L' ⟨k, rfl, hk, rfl, r0, r3, r6, r7, r20, r40, r41, r42, rfl, hall⟩
  refine ju8 r42 r41 r40 r20 r7 r6 r3 r0 ?_
  by_cases hkn : k < c.ents.length
  ·obtain ⟨b, off, cap', cs, he, ⟨t1, t2, t3, t4, rfl, hi⟩, hAt⟩ := (hce.mono hJ2).get k hkn
   cases he
   have hsplit : c.ents = c.ents.take k ++ c.ents[k] :: c.ents.drop (k + 1) := by rw [← List.drop_eq_getElem_cons hkn, List.take_append_drop]
   have htk : c.ents.take (k + 1) = c.ents.take k ++ [c.ents[k]] := List.take_succ_eq_append_getElem hkn
   have hia := hi.atr
   obtain ⟨b1, d1, b2, d2, b3, d3, b4, d4, rfl, rfl, rfl, rfl⟩ := hi.sl
   generalize c.ents[k] = x at *
   refine jS (jy rfl rfl (jM (jB (jF (jV (jA (jB (WC.block (jS (jm (jZ rfl rfl) (jm (Val.loadI rfl (by assumption) rfl) ?_)))))))))))
   refine WL.alloc rfl (fun _ => ?_)
   refine jW ?_
   refine WL.stA 6 rfl rfl rfl rfl ?_
   refine jN (jm (jn rfl) (jm (jt 6 rfl rfl rfl) (jm (jn rfl) (jm (jp 6 rfl rfl rfl) (WL.callS rfl rfl (atr_ctr x.atr x.grp _ _ _ _ _ (hN.mono hJ2) hia) rfl ?_)))))
   rintro _ rfl
   by_cases h2 : x.atr.check x.grp = 0
   ·have hall' : ∀ y ∈ c.ents.take (k + 1), y.atr.check y.grp = 0 := by
     rw [htk]
     intro y hy
     rcases List.mem_append.1 hy with hy | hy
     ·exact hall y hy
     ·rw [List.mem_singleton.1 hy]; exact h2
    exact jf rfl (jN (ja rfl (jz rfl rfl (jM (jE (jV (WX.inNormal (jA (jD (jX rfl rfl (ja rfl (jC (WX.conv (fun w h => h.sub [0, 0, 0, 0, 0, 0] rfl) (WX.thenK (WK.round (c.ents.length - (k + 1)) (by omega) ⟨k + 1, rfl, by omega, rfl, rfl, rfl, rfl, rfl, rfl, rfl, rfl, rfl, rfl, hall'⟩)))))))))))))))
   ·have hfw : firstWrong c.ents = x.atr.check x.grp := by rw [hsplit]; exact firstWrong_at _ _ _ hall h2
    rw [hfw, if_pos h2]
    refine jf rfl (jN (ja rfl (jJ rfl rfl (jM (jF (jS (ja rfl (jf rfl (jM (jR (WX.inRet (jU (jU (WX.inRet (jU (WX.inRet (jU ?_)))))))))))))))))
    exact jP [0, 0] (jr1 rfl (jtI rfl)) ⟨_, f, cnt, rfl, rfl, hkv0.mono hJ2, hat.mono hJ2⟩
  have hke : k = c.ents.length := by omega
  subst hke
  rw [List.take_length] at hall
  rw [if_neg (fun e => e (firstWrong_none _ hall))]
  refine jS (jx rfl rfl (jM (jB (jE (WC.exit (WX.thenExit (WX.thenExit (WX.inHit (jA (jB (j8 999 [1, 2, 3] rfl (jT 0 rfl (Val.moveP rfl) (jT 1 rfl (jr rfl) (jT 2 rfl (jn rfl) (jT 3 rfl (jt 0 rfl rfl rfl) (jT 4 rfl (jn rfl) (jT 5 rfl (jp 1 rfl rfl rfl) (jT 6 rfl (jn rfl) (jT 7 rfl (jp 1 rfl rfl rfl) (jT 8 rfl (jt 2 rfl rfl rfl) (j5 9 rfl (WL.callP [] rfl rfl (rAdd top nd _ _ c.parent c.index _ (by omega) (by omega) hit (hkv0.mono hJ2) hni hnv0) rfl ?_))))))))))))))))))))))
  rintro _ I3 _ hI3 ⟨rfl, kq, rfl, hkq⟩
  have hkq0 := hkq
  obtain ⟨qa, qc, rfl⟩ := hkq.sl
  refine jW ?_
  refine jC (j9 [1, 2, 3] (hI3) rfl (jT 10 rfl (Val.moveT rfl) (jT 11 rfl (Val.extractA rfl rfl) (jT 12 rfl (jq rfl rfl) (j5 13 rfl (WL.stA 4 rfl rfl rfl rfl ?_))))))
  refine jC (j9 [1, 2, 3] (hI3) rfl (jT 14 rfl (Val.assignI rfl) (j6 ?_)))
  have hJ3 := hJ2.trans hI3
  by_cases h3 : (Nd.add top c.parent c.index nd).2 = 0
  case neg =>
   rw [if_neg h3]
   refine jK (ja rfl (jv rfl rfl (jM (jE (jV (WX.inNormal (jK (jd rfl (jm (jt 4 rfl rfl rfl) (jm (jr rfl) (jm (jn rfl) (WL.stA 1 rfl rfl rfl rfl ?_))))))))))))
   refine jN (ja rfl (jf rfl (jM (jR ?_))))
   exact jP [0, 0] (jr1 rfl (jtI rfl)) ⟨_, f, cnt, rfl, rfl, hkq0, hat.mono hJ3⟩
  rw [if_pos h3]
  refine jK (ja rfl (jw rfl rfl (jM (jF (jS (jm (jn rfl) (jm (jp 3 rfl rfl rfl) (jm (jo rfl) (ja rfl (jM (WC.block ?_)))))))))))
  refine WC.loop (fun n ρ' I' L' => ∃ (k : Nat) (f' : Int → Option Value) (cnt' : Nat), n = c.ents.length - k ∧ k ≤ c.ents.length ∧ I' = I3 ∧ ρ' 0 = ptr g ∧ ρ' 5 = vi (Nd.add top c.parent c.index nd).2 ∧ ρ' 6 = ptr g6 ∧ ρ' 71 = .slice x0 c.ents.length y0 ∧ ρ' 72 = vi c.ents.length ∧ ρ' 73 = vi k ∧
    L' = [F, mbox g mb top (.slice ka top.kids.length kc), mp mb f' cnt', box g3 59 (c.cs (.slice x0 c.ents.length y0) (.slice x1 c.atr.sty.fill.stops.length y1) (.slice x2 c.atr.sty.pen.stops.length y2) (.slice x3 c.atr.sty.dash.length y3) (.slice x4 c.atr.path.length y4)), box g6 77 [vi (Nd.add top c.parent c.index nd).1.id, .bool (Nd.add top c.parent c.index nd).1.grp, .slice qa (Nd.add top c.parent c.index nd).1.kids.length qc], box g7 77 [vi nd.id, .bool nd.grp, .slice na nd.kids.length nc]] ∧ AtRep I' (putAll at_ (c.ents.take k)) f')
   c.ents.length ⟨0, f, cnt, rfl, by omega, rfl, rfl, rfl, rfl, rfl, rfl, rfl, rfl, hat.mono hJ3⟩ ?_
  rintro n ρ' I4 L' ⟨k, f', cnt', rfl, hk, rfl, r0, r5, r6, r71, r72, r73, rfl, hrep⟩
  refine ju6 r73 r72 r71 r6 r5 r0 ?_
  by_cases hkn2 : k < c.ents.length
  ·obtain ⟨b, off, cap', cs, he, ⟨t1, t2, t3, t4, rfl, hi⟩, hAt⟩ := (hce.mono hJ3).get k hkn2
   cases he
   have hpu := putAll_snoc (c.ents.take k) at_ c.ents[k]
   rw [← List.take_succ_eq_append_getElem hkn2] at hpu
   have hia := hi.atr
   obtain ⟨b1, d1, b2, d2, b3, d3, b4, d4, rfl, rfl, rfl, rfl⟩ := hi.sl
   generalize c.ents[k] = x at *
   refine jS (jy rfl rfl (jM (jB (jF (jV (jA (jB (WC.block (jS (jm (jZ rfl rfl) (jm (Val.loadI rfl (by assumption) rfl) ?_)))))))))))
   refine WL.alloc rfl (fun _ => ?_)
   refine jW ?_
   refine WL.stA 6 rfl rfl rfl rfl ?_
   refine jM (j8 999 [1, 5] rfl (jT 0 rfl (Val.moveP rfl) (jT 1 rfl (jr rfl) (jT 2 rfl (jn rfl) (jT 3 rfl (jp 0 rfl rfl rfl) (jT 4 rfl (jn rfl) (jT 5 rfl (jp 1 rfl rfl rfl) (jT 6 rfl (jn rfl) (jT 7 rfl (jt 1 rfl rfl rfl) (j5 8 rfl (WL.mapUpdate 2 rfl rfl rfl ?_)))))))))))
   refine WL.nSet ?_
   refine jC (j7 [1, 5] rfl (j6 (WX.inNormal (jA (jD (jX rfl rfl (ja rfl (jC (WX.conv (fun w h => h.sub [0, 0, 0, 0, 0, 0] rfl) ?_)))))))))
   refine WX.thenK (WK.round (c.ents.length - (k + 1)) (by omega) ⟨k + 1, _, _, rfl, by omega, rfl, rfl, rfl, rfl, rfl, rfl, rfl, rfl, ?_⟩)
   rw [hpu]
   exact hrep.up ⟨_, _, _, _, rfl, hia⟩ _
  ·have hke2 : k = c.ents.length := by omega
   subst hke2
   rw [List.take_length] at hrep
   refine jS (jx rfl rfl (jM (jB (jE (WC.exit (WX.thenExit (WX.thenExit (WX.inHit (WX.inNormal (jK (jd rfl (jm (jt 4 rfl rfl rfl) (jm (jr rfl) (jm (jn rfl) (WL.stA 1 rfl rfl rfl rfl ?_)))))))))))))))
   refine jN (ja rfl (jf rfl (jM (jR ?_))))
   exact jP [0, 0] (jr1 rfl (jtI rfl)) ⟨_, f', cnt', rfl, rfl, hkq0, hrep⟩
 by_cases k2 : c.kind = 2
 ·rw [mdo, if_neg k1, if_pos k2]
  refine jS (WL.boxA rfl rfl (fun _ => ?_))
  refine jW ?_
  refine jf rfl (jN (jf rfl (jN (jd rfl (jm (jr rfl) (jm (jn rfl) (jm (jt 1 rfl rfl rfl) (WL.alloc rfl (fun _ => ?_)))))))))
  refine jW ?_
  refine WL.stA 4 rfl rfl rfl rfl ?_
  refine jM (jB (jS (jm (jn rfl) (jm (jp 3 rfl rfl rfl) (jM (WC.block (jCf rfl rfl (jS (jw rfl rfl (jg rfl (jM (jF (j8 999 [1, 2] rfl (jT 0 rfl (Val.moveP rfl) (jT 1 rfl (jr rfl) (jT 2 rfl (jn rfl) (jT 3 rfl (jt 0 rfl rfl rfl) (jT 4 rfl (jn rfl) (jT 5 rfl (jp 1 rfl rfl rfl) (j5 6 rfl (WL.callP [] rfl rfl (rRemove top _ c.id _ (by omega) hit hkv0 hhas) rfl ?_)))))))))))))))))))))
  rintro _ I2 _ hI2 ⟨rfl, kq, kw, rfl, hkq, hkw, _⟩
  have hkq0 := hkq
  obtain ⟨qa, qc, rfl⟩ := hkq.sl
  obtain ⟨wa, wc, rfl⟩ := hkw.sl
  refine jW ?_
  refine jC (j9 [1, 2] (hI2) rfl (jT 7 rfl (Val.moveT rfl) (jT 8 rfl (Val.extractA rfl rfl) (jT 9 rfl (Val.extractA rfl rfl) (jT 10 rfl (jq rfl rfl) (jT 11 rfl (jq rfl rfl) (jT 12 rfl (jq rfl rfl) (j5 13 rfl (WL.stA 4 rfl rfl rfl rfl ?_)))))))))
  refine jC (j9 [1, 2] (hI2) rfl (jT 14 rfl (Val.assignI rfl) (j6 (WX.inNormal (jK (jd rfl (jm (jt 4 rfl rfl rfl) (jm (jr rfl) (jm (jn rfl) (WL.stA 1 rfl rfl rfl rfl ?_))))))))))
  refine jN (ja rfl (jf rfl (jM (jR ?_))))
  exact jP [0, 0] (jr1 rfl (jtI rfl)) ⟨_, f, cnt, rfl, rfl, hkq0, hat.mono hI2⟩
 by_cases k3 : c.kind = 3
 ·rw [mdo, if_neg k1, if_neg k2, if_pos k3]
  refine jS (WL.boxA rfl rfl (fun _ => ?_))
  refine jW ?_
  refine jf rfl (jN (jf rfl (jN (jd rfl (jm (jr rfl) (jm (jn rfl) (jm (jt 1 rfl rfl rfl) (WL.alloc rfl (fun _ => ?_)))))))))
  refine jW ?_
  refine WL.stA 4 rfl rfl rfl rfl ?_
  refine jM (jB (jS (jm (jn rfl) (jm (jp 3 rfl rfl rfl) (jM (WC.block (jCf rfl rfl (jCf rfl rfl (jS (jw rfl rfl (jg rfl (jM (jF (j8 999 [1, 2] rfl (jT 0 rfl (Val.moveP rfl) (jT 1 rfl (jr rfl) (jT 2 rfl (jn rfl) (jT 3 rfl (jt 0 rfl rfl rfl) (jT 4 rfl (jn rfl) (jT 5 rfl (jp 1 rfl rfl rfl) (jT 6 rfl (jn rfl) (jT 7 rfl (jp 1 rfl rfl rfl) (jT 8 rfl (jn rfl) (jT 9 rfl (jp 1 rfl rfl rfl) (j5 10 rfl (WL.callP [] rfl rfl (rMove top _ c.id c.parent c.index _ (by omega) hit hkv0 hhas (by omega)) rfl ?_))))))))))))))))))))))))))
  rintro _ I2 _ hI2 ⟨rfl, kq, rfl, hkq⟩
  have hkq0 := hkq
  obtain ⟨qa, qc, rfl⟩ := hkq.sl
  refine jW ?_
  refine jC (j9 [1, 2] (hI2) rfl (jT 11 rfl (Val.moveT rfl) (jT 12 rfl (Val.extractA rfl rfl) (jT 13 rfl (jq rfl rfl) (j5 14 rfl (WL.stA 4 rfl rfl rfl rfl ?_))))))
  refine jC (j9 [1, 2] (hI2) rfl (jT 15 rfl (Val.assignI rfl) (j6 (WX.inNormal (jK (jd rfl (jm (jt 4 rfl rfl rfl) (jm (jr rfl) (jm (jn rfl) (WL.stA 1 rfl rfl rfl rfl ?_))))))))))
  refine jN (ja rfl (jf rfl (jM (jR ?_))))
  exact jP [0, 0] (jr1 rfl (jtI rfl)) ⟨_, f, cnt, rfl, rfl, hkq0, hat.mono hI2⟩
 by_cases k4 : c.kind = 4
 ·rw [mdo, if_neg k1, if_neg k2, if_neg k3, if_pos k4]
  refine jS (WL.boxA rfl rfl (fun _ => ?_))
  refine jW ?_
  refine jf rfl (jN (jf rfl (jN (jd rfl (jm (jr rfl) (jm (jn rfl) (jm (jt 1 rfl rfl rfl) (WL.alloc rfl (fun _ => ?_)))))))))
  refine jW ?_
  refine WL.stA 4 rfl rfl rfl rfl ?_
  refine jM (jB (jS (jm (jn rfl) (jm (jp 3 rfl rfl rfl) (jM (WC.block (jCf rfl rfl (jCf rfl rfl (jCf rfl rfl (jS (jw rfl rfl (jg rfl (jM (jF (jB (jS (jm (jn rfl) (jm (jt 3 rfl rfl rfl) (WL.callS rfl rfl (atr_ctr c.atr true _ _ _ _ _ hN hca) rfl ?_)))))))))))))))))))
  rintro _ rfl
  by_cases h2 : c.atr.check true = 0
  case neg =>
   rw [if_pos h2]
   refine jf rfl (jN (ja rfl (jJ rfl rfl (jM (jF (jS (ja rfl (jf rfl (jM (jR (jU (WX.inRet (jU ?_)))))))))))))
   exact jP [0, 0] (jr1 rfl (jtI rfl)) ⟨_, f, cnt, rfl, rfl, hkv0, hat⟩
  rw [if_neg (fun e => e h2)]
  refine jf rfl (jN (ja rfl (jz rfl rfl (jM (jE (jV (jA (jB (j8 999 [1, 2] rfl (jT 0 rfl (Val.moveP rfl) (jT 1 rfl (jr rfl) (jT 2 rfl (jn rfl) (jT 3 rfl (jt 0 rfl rfl rfl) (jT 4 rfl (jn rfl) (jT 5 rfl (jp 1 rfl rfl rfl) (jT 6 rfl (jn rfl) (jT 7 rfl (jp 1 rfl rfl rfl) (jT 8 rfl (jn rfl) (jT 9 rfl (jp 1 rfl rfl rfl) (jT 10 rfl (jn rfl) (jT 11 rfl (jp 1 rfl rfl rfl) (j5 12 rfl (WL.callP [] rfl rfl (rWrap top _ c.id c.parent c.index c.count _ (by omega) hit hkv0 hc0.id) rfl ?_)))))))))))))))))))))))
  rintro _ I2 _ hI2 ⟨rfl, kq, rfl, hkq⟩
  have hkq0 := hkq
  obtain ⟨qa, qc, rfl⟩ := hkq.sl
  refine jW ?_
  refine jC (j9 [1, 2] (hI2) rfl (jT 13 rfl (Val.moveT rfl) (jT 14 rfl (Val.extractA rfl rfl) (jT 15 rfl (jq rfl rfl) (j5 16 rfl (WL.stA 4 rfl rfl rfl rfl ?_))))))
  refine jC (j9 [1, 2] (hI2) rfl (jT 17 rfl (Val.assignI rfl) (j6 ?_)))
  by_cases h3 : (Nd.wrap top c.id c.parent c.index c.count).2 = 0
  case neg =>
   rw [if_neg h3]
   refine jK (ja rfl (jv rfl rfl (jM (jE (jV (WX.inNormal (jK (jd rfl (jm (jt 4 rfl rfl rfl) (jm (jr rfl) (jm (jn rfl) (WL.stA 1 rfl rfl rfl rfl ?_))))))))))))
   refine jN (ja rfl (jf rfl (jM (jR ?_))))
   exact jP [0, 0] (jr1 rfl (jtI rfl)) ⟨_, f, cnt, rfl, rfl, hkq0, hat.mono hI2⟩
  rw [if_pos h3]
  refine jK (ja rfl (jw rfl rfl (jM (jF (j8 999 [1, 2] rfl (jT 0 rfl (Val.moveP rfl) (jT 1 rfl (jr rfl) (jT 2 rfl (jn rfl) (jT 3 rfl (jp 0 rfl rfl rfl) (jT 4 rfl (jn rfl) (jT 5 rfl (jp 1 rfl rfl rfl) (jT 6 rfl (jn rfl) (jT 7 rfl (jt 1 rfl rfl rfl) (j5 8 rfl (WL.mapUpdate 2 rfl rfl rfl ?_)))))))))))))))
  refine WL.nSet ?_
  refine jC (j7 [1, 2] rfl (j6 (WX.inNormal (jK (jd rfl (jm (jt 4 rfl rfl rfl) (jm (jr rfl) (jm (jn rfl) (WL.stA 1 rfl rfl rfl rfl ?_)))))))))
  refine jN (ja rfl (jf rfl (jM (jR ?_))))
  exact jP [0, 0] (jr1 rfl (jtI rfl)) ⟨_, _, _, rfl, rfl, hkq0, (hat.mono hI2).up ⟨_, _, _, _, rfl, hca.mono hI2⟩ _⟩
 by_cases k5 : c.kind = 5
 ·rw [mdo, if_neg k1, if_neg k2, if_neg k3, if_neg k4, if_pos k5]
  refine jS (WL.boxA rfl rfl (fun _ => ?_))
  refine jW ?_
  refine jf rfl (jN (jf rfl (jN (jd rfl (jm (jr rfl) (jm (jn rfl) (jm (jt 1 rfl rfl rfl) (WL.alloc rfl (fun _ => ?_)))))))))
  refine jW ?_
  refine WL.stA 4 rfl rfl rfl rfl ?_
  refine jM (jB (jS (jm (jn rfl) (jm (jp 3 rfl rfl rfl) (jM (WC.block (jCf rfl rfl (jCf rfl rfl (jCf rfl rfl (jCf rfl rfl (jS (jw rfl rfl (jg rfl (jM (jF (j8 999 [1, 2] rfl (jT 0 rfl (Val.moveP rfl) (jT 1 rfl (jr rfl) (jT 2 rfl (jn rfl) (jT 3 rfl (jt 0 rfl rfl rfl) (jT 4 rfl (jn rfl) (jT 5 rfl (jp 1 rfl rfl rfl) (j5 6 rfl (WL.callP [] rfl rfl (rUnwrap top _ c.id _ (by omega) hit hkv0 hhas) rfl ?_))))))))))))))))))))))))
  rintro _ I2 _ hI2 ⟨rfl, kq, rfl, hkq⟩
  have hkq0 := hkq
  obtain ⟨qa, qc, rfl⟩ := hkq.sl
  refine jW ?_
  refine jC (j9 [1, 2] (hI2) rfl (jT 7 rfl (Val.moveT rfl) (jT 8 rfl (Val.extractA rfl rfl) (jT 9 rfl (jq rfl rfl) (jT 10 rfl (jq rfl rfl) (jT 11 rfl (jq rfl rfl) (jT 12 rfl (jq rfl rfl) (j5 13 rfl (WL.stA 4 rfl rfl rfl rfl ?_)))))))))
  refine jC (j9 [1, 2] (hI2) rfl (jT 14 rfl (Val.assignI rfl) (j6 (WX.inNormal (jK (jd rfl (jm (jt 4 rfl rfl rfl) (jm (jr rfl) (jm (jn rfl) (WL.stA 1 rfl rfl rfl rfl ?_))))))))))
  refine jN (ja rfl (jf rfl (jM (jR ?_))))
  exact jP [0, 0] (jr1 rfl (jtI rfl)) ⟨_, f, cnt, rfl, rfl, hkq0, hat.mono hI2⟩
 by_cases k6 : 6 ≤ c.kind ∧ c.kind ≤ 12
 ·rw [mdo, if_neg k1, if_neg k2, if_neg k3, if_neg k4, if_neg k5, if_pos k6]
  obtain ⟨k6, k12⟩ := k6
  have hk : c.kind = 6 ∨ c.kind = 7 ∨ c.kind = 8 ∨ c.kind = 9 ∨ c.kind = 10 ∨ c.kind = 11 ∨ c.kind = 12 := by omega
  rcases hk with hk | hk | hk | hk | hk | hk | hk
  ·skip
   refine jS (WL.boxA rfl rfl (fun _ => ?_))
   refine jW ?_
   refine jf rfl (jN (jf rfl (jN (jd rfl (jm (jr rfl) (jm (jn rfl) (jm (jt 1 rfl rfl rfl) (WL.alloc rfl (fun _ => ?_)))))))))
   refine jW ?_
   refine WL.stA 4 rfl rfl rfl rfl ?_
   refine jM (jB (jS (jm (jn rfl) (jm (jp 3 rfl rfl rfl) (jM (WC.block (jCf rfl rfl (jCf rfl rfl (jCf rfl rfl (jCf rfl rfl (jCf rfl rfl (jB (jS (jw rfl rfl (jg rfl (jM (jF (jV (jA (jF (jS (jd rfl (jm (jt 3 rfl rfl rfl) (WL.callP [1, 1] rfl rfl (mSet top _ at_ f g mb cnt c _ _ _ _ _ _ hN (by omega) hit hkv0 hat hc0 k6 k12) rfl ?_))))))))))))))))))))))))
   rintro _ I1 _ hI1 ⟨f', cnt', rfl, rfl, hrep⟩
   refine jW ?_
   refine jf rfl (jM (jR (WX.inRet (jU ?_))))
   exact jP [2, 2] (jr1 rfl (jtI rfl)) ⟨_, f', cnt', rfl, rfl, hkv0.mono hI1, hrep⟩
  ·skip
   refine jS (WL.boxA rfl rfl (fun _ => ?_))
   refine jW ?_
   refine jf rfl (jN (jf rfl (jN (jd rfl (jm (jr rfl) (jm (jn rfl) (jm (jt 1 rfl rfl rfl) (WL.alloc rfl (fun _ => ?_)))))))))
   refine jW ?_
   refine WL.stA 4 rfl rfl rfl rfl ?_
   refine jM (jB (jS (jm (jn rfl) (jm (jp 3 rfl rfl rfl) (jM (WC.block (jCf rfl rfl (jCf rfl rfl (jCf rfl rfl (jCf rfl rfl (jCf rfl rfl (jB (jCf rfl rfl (jS (jw rfl rfl (jg rfl (jM (jF (jV (jA (jF (jS (jd rfl (jm (jt 3 rfl rfl rfl) (WL.callP [1, 1] rfl rfl (mSet top _ at_ f g mb cnt c _ _ _ _ _ _ hN (by omega) hit hkv0 hat hc0 k6 k12) rfl ?_)))))))))))))))))))))))))
   rintro _ I1 _ hI1 ⟨f', cnt', rfl, rfl, hrep⟩
   refine jW ?_
   refine jf rfl (jM (jR (WX.inRet (jU ?_))))
   exact jP [2, 2] (jr1 rfl (jtI rfl)) ⟨_, f', cnt', rfl, rfl, hkv0.mono hI1, hrep⟩
  ·skip
   refine jS (WL.boxA rfl rfl (fun _ => ?_))
   refine jW ?_
   refine jf rfl (jN (jf rfl (jN (jd rfl (jm (jr rfl) (jm (jn rfl) (jm (jt 1 rfl rfl rfl) (WL.alloc rfl (fun _ => ?_)))))))))
   refine jW ?_
   refine WL.stA 4 rfl rfl rfl rfl ?_
   refine jM (jB (jS (jm (jn rfl) (jm (jp 3 rfl rfl rfl) (jM (WC.block (jCf rfl rfl (jCf rfl rfl (jCf rfl rfl (jCf rfl rfl (jCf rfl rfl (jB (jCf rfl rfl (jCf rfl rfl (jS (jw rfl rfl (jg rfl (jM (jF (jV (jA (jF (jS (jd rfl (jm (jt 3 rfl rfl rfl) (WL.callP [1, 1] rfl rfl (mSet top _ at_ f g mb cnt c _ _ _ _ _ _ hN (by omega) hit hkv0 hat hc0 k6 k12) rfl ?_))))))))))))))))))))))))))
   rintro _ I1 _ hI1 ⟨f', cnt', rfl, rfl, hrep⟩
   refine jW ?_
   refine jf rfl (jM (jR (WX.inRet (jU ?_))))
   exact jP [2, 2] (jr1 rfl (jtI rfl)) ⟨_, f', cnt', rfl, rfl, hkv0.mono hI1, hrep⟩
  ·skip
   refine jS (WL.boxA rfl rfl (fun _ => ?_))
   refine jW ?_
   refine jf rfl (jN (jf rfl (jN (jd rfl (jm (jr rfl) (jm (jn rfl) (jm (jt 1 rfl rfl rfl) (WL.alloc rfl (fun _ => ?_)))))))))
   refine jW ?_
   refine WL.stA 4 rfl rfl rfl rfl ?_
   refine jM (jB (jS (jm (jn rfl) (jm (jp 3 rfl rfl rfl) (jM (WC.block (jCf rfl rfl (jCf rfl rfl (jCf rfl rfl (jCf rfl rfl (jCf rfl rfl (jB (jCf rfl rfl (jCf rfl rfl (jCf rfl rfl (jS (jw rfl rfl (jg rfl (jM (jF (jV (jA (jF (jS (jd rfl (jm (jt 3 rfl rfl rfl) (WL.callP [1, 1] rfl rfl (mSet top _ at_ f g mb cnt c _ _ _ _ _ _ hN (by omega) hit hkv0 hat hc0 k6 k12) rfl ?_)))))))))))))))))))))))))))
   rintro _ I1 _ hI1 ⟨f', cnt', rfl, rfl, hrep⟩
   refine jW ?_
   refine jf rfl (jM (jR (WX.inRet (jU ?_))))
   exact jP [2, 2] (jr1 rfl (jtI rfl)) ⟨_, f', cnt', rfl, rfl, hkv0.mono hI1, hrep⟩
  ·skip
   refine jS (WL.boxA rfl rfl (fun _ => ?_))
   refine jW ?_
   refine jf rfl (jN (jf rfl (jN (jd rfl (jm (jr rfl) (jm (jn rfl) (jm (jt 1 rfl rfl rfl) (WL.alloc rfl (fun _ => ?_)))))))))
   refine jW ?_
   refine WL.stA 4 rfl rfl rfl rfl ?_
   refine jM (jB (jS (jm (jn rfl) (jm (jp 3 rfl rfl rfl) (jM (WC.block (jCf rfl rfl (jCf rfl rfl (jCf rfl rfl (jCf rfl rfl (jCf rfl rfl (jB (jCf rfl rfl (jCf rfl rfl (jCf rfl rfl (jCf rfl rfl (jS (jw rfl rfl (jg rfl (jM (jF (jV (jA (jF (jS (jd rfl (jm (jt 3 rfl rfl rfl) (WL.callP [1, 1] rfl rfl (mSet top _ at_ f g mb cnt c _ _ _ _ _ _ hN (by omega) hit hkv0 hat hc0 k6 k12) rfl ?_))))))))))))))))))))))))))))
   rintro _ I1 _ hI1 ⟨f', cnt', rfl, rfl, hrep⟩
   refine jW ?_
   refine jf rfl (jM (jR (WX.inRet (jU ?_))))
   exact jP [2, 2] (jr1 rfl (jtI rfl)) ⟨_, f', cnt', rfl, rfl, hkv0.mono hI1, hrep⟩
  ·skip
   refine jS (WL.boxA rfl rfl (fun _ => ?_))
   refine jW ?_
   refine jf rfl (jN (jf rfl (jN (jd rfl (jm (jr rfl) (jm (jn rfl) (jm (jt 1 rfl rfl rfl) (WL.alloc rfl (fun _ => ?_)))))))))
   refine jW ?_
   refine WL.stA 4 rfl rfl rfl rfl ?_
   refine jM (jB (jS (jm (jn rfl) (jm (jp 3 rfl rfl rfl) (jM (WC.block (jCf rfl rfl (jCf rfl rfl (jCf rfl rfl (jCf rfl rfl (jCf rfl rfl (jB (jCf rfl rfl (jCf rfl rfl (jCf rfl rfl (jCf rfl rfl (jCf rfl rfl (jS (jw rfl rfl (jg rfl (jM (jF (jV (jA (jF (jS (jd rfl (jm (jt 3 rfl rfl rfl) (WL.callP [1, 1] rfl rfl (mSet top _ at_ f g mb cnt c _ _ _ _ _ _ hN (by omega) hit hkv0 hat hc0 k6 k12) rfl ?_)))))))))))))))))))))))))))))
   rintro _ I1 _ hI1 ⟨f', cnt', rfl, rfl, hrep⟩
   refine jW ?_
   refine jf rfl (jM (jR (WX.inRet (jU ?_))))
   exact jP [2, 2] (jr1 rfl (jtI rfl)) ⟨_, f', cnt', rfl, rfl, hkv0.mono hI1, hrep⟩
  ·skip
   refine jS (WL.boxA rfl rfl (fun _ => ?_))
   refine jW ?_
   refine jf rfl (jN (jf rfl (jN (jd rfl (jm (jr rfl) (jm (jn rfl) (jm (jt 1 rfl rfl rfl) (WL.alloc rfl (fun _ => ?_)))))))))
   refine jW ?_
   refine WL.stA 4 rfl rfl rfl rfl ?_
   refine jM (jB (jS (jm (jn rfl) (jm (jp 3 rfl rfl rfl) (jM (WC.block (jCf rfl rfl (jCf rfl rfl (jCf rfl rfl (jCf rfl rfl (jCf rfl rfl (jB (jCf rfl rfl (jCf rfl rfl (jCf rfl rfl (jCf rfl rfl (jCf rfl rfl (jCf rfl rfl (jD (jw rfl rfl (jg rfl (jM (jF (jS (jd rfl (jm (jt 3 rfl rfl rfl) (WL.callP [1, 1] rfl rfl (mSet top _ at_ f g mb cnt c _ _ _ _ _ _ hN (by omega) hit hkv0 hat hc0 k6 k12) rfl ?_)))))))))))))))))))))))))))
   rintro _ I1 _ hI1 ⟨f', cnt', rfl, rfl, hrep⟩
   refine jW ?_
   refine jf rfl (jM (jR (WX.inRet (jU ?_))))
   exact jP [2, 2] (jr1 rfl (jtI rfl)) ⟨_, f', cnt', rfl, rfl, hkv0.mono hI1, hrep⟩
 ·rw [mdo, if_neg k1, if_neg k2, if_neg k3, if_neg k4, if_neg k5, if_neg k6]
  have hk : c.kind < 1 ∨ 12 < c.kind := by omega
  rcases hk with hk | hk
  ·skip
   refine jS (WL.boxA rfl rfl (fun _ => ?_))
   refine jW ?_
   refine jf rfl (jN (jf rfl (jN (jd rfl (jm (jr rfl) (jm (jn rfl) (jm (jt 1 rfl rfl rfl) (WL.alloc rfl (fun _ => ?_)))))))))
   refine jW ?_
   refine WL.stA 4 rfl rfl rfl rfl ?_
   refine jM (jB (jS (jm (jn rfl) (jm (jp 3 rfl rfl rfl) (jM (WC.block (jCf rfl rfl (jCf rfl rfl (jCf rfl rfl (jCf rfl rfl (jCf rfl rfl (jB (jCf rfl rfl (jCf rfl rfl (jCf rfl rfl (jCf rfl rfl (jCf rfl rfl (jCf rfl rfl (jD (jv rfl rfl (jg rfl (jM (jE (jS (jf rfl (jM (jR (WX.inRet (jU ?_)))))))))))))))))))))))))))))
   exact jP [0, 0] (jr1 rfl (jtI rfl)) ⟨_, f, cnt, rfl, rfl, hkv0, hat⟩
  ·skip
   refine jS (WL.boxA rfl rfl (fun _ => ?_))
   refine jW ?_
   refine jf rfl (jN (jf rfl (jN (jd rfl (jm (jr rfl) (jm (jn rfl) (jm (jt 1 rfl rfl rfl) (WL.alloc rfl (fun _ => ?_)))))))))
   refine jW ?_
   refine WL.stA 4 rfl rfl rfl rfl ?_
   refine jM (jB (jS (jm (jn rfl) (jm (jp 3 rfl rfl rfl) (jM (WC.block (jCf rfl rfl (jCf rfl rfl (jCf rfl rfl (jCf rfl rfl (jCf rfl rfl (jB (jCf rfl rfl (jCf rfl rfl (jCf rfl rfl (jCf rfl rfl (jCf rfl rfl (jCf rfl rfl (jD (jv rfl rfl (jg rfl (jM (jE (jS (jf rfl (jM (jR (WX.inRet (jU ?_)))))))))))))))))))))))))))))
   exact jP [0, 0] (jr1 rfl (jtI rfl)) ⟨_, f, cnt, rfl, rfl, hkv0, hat⟩
end Go.Proofs.YtggcpoleklcmkaaGreatDoor

namespace Go.Dc
open Go.Sl Go.Ls Go.Tr
def tot (h : Int → Int) : List (Int × Bool) → Int
 | [] => 0
 | p :: l => h p.1 + tot h l
theorem tot_app (h : Int → Int) : ∀ (a b : List (Int × Bool)), tot h (a ++ b) = tot h a + tot h b
 | [], b => by rw [tot]; simp
 | p :: a, b => by rw [List.cons_append, tot, tot, tot_app h a b]; omega
theorem tot_perm (h : Int → Int) {a b : List (Int × Bool)} (hp : a.Perm b) : tot h a = tot h b := by
 induction hp with
 | nil => rfl
 | cons x _ ih => rw [tot, tot, ih]
 | swap x y l => rw [tot, tot, tot, tot]; omega
 | trans _ _ h1 h2 => rw [h1, h2]
theorem tot_congr {h g : Int → Int} : ∀ {l : List (Int × Bool)}, (∀ p ∈ l, h p.1 = g p.1) → tot h l = tot g l
 | [], _ => rfl
 | p :: l, hh => by rw [tot, tot, hh p (.head _), tot_congr fun q hq => hh q (.tail _ hq)]
theorem tot_nonneg {h : Int → Int} : ∀ {l : List (Int × Bool)}, (∀ p ∈ l, 0 ≤ h p.1) → 0 ≤ tot h l
 | [], _ => Int.le_refl _
 | p :: l, hh => by
  rw [tot]
  have := hh p (.head _)
  have := tot_nonneg fun q hq => hh q (List.mem_cons_of_mem p hq)
  omega
theorem tot_up {h : Int → Int} {i v : Int} : ∀ {l : List (Int × Bool)}, (l.map Prod.fst).Nodup → i ∈ l.map Prod.fst → tot (fun k => if k = i then v else h k) l = tot h l + v - h i
 | [], _, hi => by cases hi
 | p :: l, hn, hi => by
  rw [List.map_cons, List.nodup_cons] at hn
  rw [tot, tot]
  by_cases hp : p.1 = i
  ·have : tot (fun k => if k = i then v else h k) l = tot h l := tot_congr fun q hq => if_neg fun e => hn.1 (by rw [hp, ← e]; exact List.mem_map_of_mem hq)
   rw [this, if_pos hp, hp]
   omega
  ·rw [if_neg hp, tot_up hn.2 ((List.mem_cons.1 hi).resolve_left fun e => hp e.symm)]
   omega
def Dr.len (d : Dr) (i : Int) : Int := ((d.at_ i).getD Atr.z).path.length
theorem Dr.len_nn (d : Dr) (i : Int) : 0 ≤ d.len i := Int.natCast_nonneg _
theorem len_of {d d' : Dr} {i : Int} (h : d'.at_ i = d.at_ i) : d'.len i = d.len i := by rw [Dr.len, Dr.len, h]
theorem get_of {d d' : Dr} {i : Int} (h : d'.at_ i = d.at_ i) : d'.get i = d.get i := by rw [Dr.get, Dr.get, h]
structure DInv (d : Dr) : Prop where
 seg : d.segs = tot d.len d.top.gs
 right : ∀ p ∈ d.top.gs, p.1 ≠ 0 → (d.get p.1).check p.2 = 0
 most : d.segs ≤ mostSegs
theorem DInv.nonneg {d : Dr} (h : DInv d) : 0 ≤ d.segs := by rw [h.seg]; exact tot_nonneg fun p _ => d.len_nn p.1
theorem perm_gs {a b c : List (Int × Bool)} (h : ∀ x, a.count x = b.count x + c.count x) : a.Perm (b ++ c) := by
 rw [List.perm_iff_count]
 intro x
 rw [List.count_append, h x]
theorem perm_gs0 {a b : List (Int × Bool)} (h : ∀ x, a.count x = b.count x) : a.Perm b := List.perm_iff_count.2 h
theorem segsOf_ents (at_ : Int → Atr) (n : Nd) : segsOf (ents at_ n) = tot (fun i => ((at_ i).path.length : Int)) n.gs := by
 refine Nd.rec (motive_1 := fun n => segsOf (ents at_ n) = tot (fun i => ((at_ i).path.length : Int)) n.gs) (motive_2 := fun l => segsOf (entss at_ l) = tot (fun i => ((at_ i).path.length : Int)) (Nd.gss l)) ?_ ?_ ?_ n
 ·intro i g ks h
  rw [ents, Nd.gs, tot, ← h]; rfl
 ·rw [entss, Nd.gss]; rfl
 ·intro k ks h1 h2
  rw [entss, Nd.gss, tot_app, ← h1, ← h2]
  have : ∀ a b : List Ent, segsOf (a ++ b) = segsOf a + segsOf b := by
   intro a b
   induction a with
   | nil => show segsOf b = 0 + segsOf b; omega
   | cons x a ih => show (x.atr.path.length : Int) + segsOf (a ++ b) = (x.atr.path.length : Int) + segsOf a + segsOf b; omega
  exact this _ _
theorem tk_gs : ∀ (f : Nat), (∀ (l : List Ent) n r, tk f l = some (n, r) → l.map (fun x => (x.id, x.grp)) = n.gs ++ r.map (fun x => (x.id, x.grp))) ∧ ∀ (k : Nat) (l : List Ent) ns r, tks f k l = some (ns, r) → l.map (fun x => (x.id, x.grp)) = Nd.gss ns ++ r.map (fun x => (x.id, x.grp)) := by
 intro f
 induction f with
 | zero =>
  refine ⟨fun l n r h => ?_, fun k l ns r h => ?_⟩
  ·rw [tk] at h; cases h
  ·cases k with
   | zero => rw [tks] at h; cases h; rw [Nd.gss]; rfl
   | succ k => rw [tks] at h; cases h
 | succ f ih =>
  refine ⟨fun l n r h => ?_, fun k l ns r h => ?_⟩
  ·cases l with
   | nil => rw [tk] at h; cases h
   | cons x l =>
    rw [tk] at h
    split at h
    ·cases h
    ·split at h
     ·cases h
     ·rename_i ks rest he
      cases h
      rw [List.map_cons, ih.2 _ _ _ _ he, Nd.gs]; rfl
  ·cases k with
   | zero => rw [tks] at h; cases h; rw [Nd.gss]; rfl
   | succ k =>
    rw [tks] at h
    split at h
    ·cases h
    ·rename_i n r1 he
     split at h
     ·cases h
     ·rename_i ns' r2 he2
      cases h
      rw [ih.1 _ _ _ he, ih.2 _ _ _ _ he2, Nd.gss, List.append_assoc]
theorem Tk_gs {l : List Ent} {n : Nd} (h : Tk l = some (n, [])) : l.map (fun x => (x.id, x.grp)) = n.gs := by
 have := (tk_gs _).1 _ _ _ h
 simpa using this
theorem putAll_ne : ∀ {l : List Ent} {f : Int → Option Atr} {i : Int}, i ∉ l.map Ent.id → putAll f l i = f i
 | [], f, i, _ => rfl
 | x :: l, f, i, h => by
  rw [List.map_cons, List.mem_cons, not_or] at h
  rw [putAll, putAll_ne h.2, upAt, if_neg h.1]
theorem putAll_at : ∀ {l : List Ent} {f : Int → Option Atr} {x : Ent}, (l.map Ent.id).Nodup → x ∈ l → putAll f l x.id = some x.atr
 | [], _, _, _, h => by cases h
 | y :: l, f, x, hn, hx => by
  rw [List.map_cons, List.nodup_cons] at hn
  rw [putAll]
  rcases List.mem_cons.1 hx with rfl | hx
  ·rw [putAll_ne hn.1, upAt, if_pos rfl]
  ·exact putAll_at hn.2 hx
theorem dropAll_ne : ∀ {l : List Ent} {f : Int → Option Atr} {i : Int}, i ∉ l.map Ent.id → dropAll f l i = f i
 | [], f, i, _ => rfl
 | x :: l, f, i, h => by
  rw [List.map_cons, List.mem_cons, not_or] at h
  rw [dropAll, dropAll_ne h.2, downAt, if_neg h.1]
theorem gs_id {n : Nd} {p : Int × Bool} (h : p ∈ n.gs) : p.1 ∈ n.order := by rw [← Nd.order_gs]; exact List.mem_map_of_mem h
theorem find_gs {n : Nd} (p : Int × Bool) : n.order.Nodup → p ∈ n.gs → ∃ m, Nd.find p.1 n = some m ∧ m.grp = p.2 := by
 refine Nd.rec (motive_1 := fun n => n.order.Nodup → p ∈ n.gs → ∃ m, Nd.find p.1 n = some m ∧ m.grp = p.2) (motive_2 := fun l => (Nd.orders l).Nodup → p ∈ Nd.gss l → ∃ m, Nd.finds p.1 l = some m ∧ m.grp = p.2) ?_ ?_ ?_ n
 ·intro i g ks ih ho hp
  rw [Nd.order, List.nodup_cons] at ho
  rw [Nd.gs] at hp
  rw [Nd.find]
  rcases List.mem_cons.1 hp with rfl | hp
  ·exact ⟨_, if_pos rfl, rfl⟩
  ·have hm : p.1 ∈ Nd.orders ks := by
    have := gs_id (n := .mk i g ks) (p := p) (by rw [Nd.gs]; exact List.mem_cons_of_mem _ hp)
    rw [Nd.order] at this
    rcases List.mem_cons.1 this with e | e
    ·exfalso
     have h2 : ∀ (l : List Nd), p ∈ Nd.gss l → p.1 ∈ Nd.orders l := by
      intro l
      induction l with
      | nil => intro h; rw [Nd.gss] at h; cases h
      | cons k l ih2 =>
       intro h
       rw [Nd.gss] at h
       rw [Nd.orders]
       rcases List.mem_append.1 h with h | h
       ·exact List.mem_append.2 (.inl (gs_id h))
       ·exact List.mem_append.2 (.inr (ih2 h))
     exact ho.1 (by rw [← e]; exact h2 ks hp)
    ·exact e
   rw [if_neg fun e => ho.1 (by rw [e]; exact hm)]
   exact ih ho.2 hp
 ·intro _ hp; rw [Nd.gss] at hp; cases hp
 ·intro k l h1 h2 ho hp
  rw [Nd.orders, List.nodup_append] at ho
  rw [Nd.gss] at hp
  rw [Nd.finds]
  rcases List.mem_append.1 hp with hp | hp
  ·obtain ⟨m, hm, hg⟩ := h1 ho.1 hp
   rw [hm]; exact ⟨m, rfl, hg⟩
  ·obtain ⟨m, hm, hg⟩ := h2 ho.2.1 hp
   cases hk : Nd.find p.1 k with
   | some y =>
    exfalso
    have hq : p.1 ∈ k.order := (Nd.find_some p.1 k).1 (by rw [hk]; rfl)
    have hl : p.1 ∈ Nd.orders l := by
     have h2 : ∀ (l : List Nd), p ∈ Nd.gss l → p.1 ∈ Nd.orders l := by
      intro l
      induction l with
      | nil => intro h; rw [Nd.gss] at h; cases h
      | cons k l ih2 =>
       intro h
       rw [Nd.gss] at h
       rw [Nd.orders]
       rcases List.mem_append.1 h with h | h
       ·exact List.mem_append.2 (.inl (gs_id h))
       ·exact List.mem_append.2 (.inr (ih2 h))
     exact h2 l hp
    exact ho.2.2 _ hq _ hl rfl
   | none => exact ⟨m, hm, hg⟩
theorem firstWrong_all : ∀ {l : List Ent}, firstWrong l = 0 → ∀ x ∈ l, x.atr.check x.grp = 0
 | [], _, _, h => by cases h
 | y :: l, h, x, hx => by
  rw [firstWrong] at h
  split at h
  ·rename_i h1; exact absurd h h1
  ·rename_i h1
   rcases List.mem_cons.1 hx with rfl | hx
   ·exact Decidable.of_not_not h1
   ·exact firstWrong_all h x hx
theorem check_grp {a : Atr} (h : a.check true = 0) : a.path.length = 0 := by
 rw [Atr.check] at h
 split at h
 ·exact absurd h (by decide)
 rename_i h1
 split at h
 ·rename_i h2; exact absurd h h2
 rename_i h2
 split at h
 ·rename_i h3; exact absurd h h3
 split at h
 ·exact absurd h (by decide)
 ·rename_i h4
  have : ¬ 0 < a.path.length := fun e => h4 ⟨rfl, e⟩
  omega
theorem DInv.grp {d : Dr} (h : DInv d) (h0 : d.at_ 0 = none) {p : Int × Bool} (hp : p ∈ d.top.gs) (hg : p.2 = true) : d.len p.1 = 0 := by
 by_cases e : p.1 = 0
 ·rw [e, Dr.len, h0]; rfl
 ·have := h.right p hp e
  rw [hg] at this
  have := check_grp this
  show ((d.get p.1).path.length : Int) = 0
  rw [this]; rfl
section
variable {A B : Ar} {d : Dr} {c : Cm}
theorem inv_add (hi : DInv d) (hA : Abs A d.top) (hB : Abs B (d.add c).1.top) : DInv (d.add c).1 := by
 rw [Dr.add] at hB ⊢
 split at hB
 ·rename_i h; rw [if_pos h]; exact hi
 rename_i hw; rw [if_neg hw]
 split at hB
 ·rename_i h; rw [if_pos h]; exact hi
 rename_i hf; rw [if_neg hf]
 split at hB
 ·rename_i h; rw [if_pos h]; exact hi
 rename_i hm; rw [if_neg hm]
 split at hB
 ·rename_i h; rw [if_pos h]; exact hi
 rename_i he; rw [if_neg he]
 have he := Decidable.of_not_not he
 have hf := firstWrong_all (Decidable.of_not_not hf)
 obtain ⟨n, hn⟩ := (Whole_iff _).1 (Decidable.of_not_not hw)
 have hno := nodeOf_eq hn
 have hids := Tk_order hn
 have hgs := Tk_gs hn
 rw [hno] at hB he ⊢
 simp only [List.map_nil, List.append_nil] at hids
 have hc := Nd.gcount_add hA.od he
 have hco := Nd.count_add hA.od he
 have hod := hB.od
 simp only at hB hod ⊢
 generalize (Nd.add d.top c.parent c.index n).1 = top' at *
 have hperm := perm_gs hc
 have hpo : top'.order.Perm (d.top.order ++ n.order) := by
  rw [List.perm_iff_count]; intro x; rw [List.count_append, hco x]
 have hnd := (hpo.nodup_iff).1 hod
 rw [List.nodup_append] at hnd
 have hids2 : (c.ents.map Ent.id).Nodup := by rw [hids]; exact hnd.2.1
 have hold : ∀ p ∈ d.top.gs, Dr.at_ ⟨top', putAll d.at_ c.ents, d.segs + segsOf c.ents⟩ p.1 = d.at_ p.1 := fun p hp => putAll_ne (by rw [hids]; exact fun h => hnd.2.2 _ (gs_id hp) _ h rfl)
 have hnew : ∀ x ∈ c.ents, Dr.at_ ⟨top', putAll d.at_ c.ents, d.segs + segsOf c.ents⟩ x.id = some x.atr := fun x hx => putAll_at hids2 hx
 generalize hd' : (⟨top', putAll d.at_ c.ents, d.segs + segsOf c.ents⟩ : Dr) = d' at *
 have ht : d'.top = top' := by rw [← hd']
 have hs : d'.segs = d.segs + segsOf c.ents := by rw [← hd']
 have hlenN : ∀ x ∈ c.ents, d'.len x.id = x.atr.path.length := fun x hx => by rw [Dr.len, hnew x hx]; rfl
 refine ⟨?_, fun p hp hp0 => ?_, by rw [hs]; omega⟩
 ·rw [hs, ht, tot_perm _ hperm, tot_app, tot_congr fun p hp => len_of (hold p hp), ← hi.seg, ← hgs]
  congr 1
  have : ∀ l : List Ent, (∀ x ∈ l, d'.len x.id = x.atr.path.length) → segsOf l = tot d'.len (l.map fun x => (x.id, x.grp)) := by
   intro l
   induction l with
   | nil => intro _; rfl
   | cons x l ih =>
    intro h
    rw [List.map_cons, tot, ← ih fun y hy => h y (List.mem_cons_of_mem _ hy)]
    simp only [h x (.head _)]
    rfl
  exact this _ hlenN
 ·rw [ht] at hp
  rcases List.mem_append.1 (hperm.mem_iff.1 hp) with hp | hp
  ·rw [get_of (hold p hp)]; exact hi.right p hp hp0
  ·rw [← hgs] at hp
   obtain ⟨x, hx, rfl⟩ := List.mem_map.1 hp
   simp only
   rw [Dr.get, hnew x hx]
   exact hf x hx
theorem inv_remove (hi : DInv d) (hA : Abs A d.top) : DInv (d.remove c).1 := by
 rw [Dr.remove]
 simp only
 split
 ·exact hi
 ·rename_i h0
  have h0 := Decidable.of_not_not h0
  have hg := hA.gcount_rem h0
  obtain ⟨o1, o2, o3, o4, o5⟩ := hA.rem_nodup h0
  have hp := perm_gs (fun x => (hg x).symm)
  have hids := ents_ids d.get (Nd.remove d.top c.id).2.1
  have hs := segsOf_ents d.get (Nd.remove d.top c.id).2.1
  have hnn := segsOf_nonneg (ents d.get (Nd.remove d.top c.id).2.1)
  generalize (Nd.remove d.top c.id).1 = t1 at *
  generalize (Nd.remove d.top c.id).2.1 = n at *
  have hl : ∀ p ∈ t1.gs, Dr.at_ ⟨t1, dropAll d.at_ (ents d.get n), d.segs - segsOf (ents d.get n)⟩ p.1 = d.at_ p.1 := fun p hp =>
   dropAll_ne (show p.1 ∉ (ents d.get n).map Ent.id by rw [hids]; exact o3 _ (gs_id hp))
  refine ⟨?_, fun p hp2 hp0 => ?_, ?_⟩
  ·show d.segs - segsOf _ = tot _ t1.gs
   have h3 : segsOf (ents d.get n) = tot d.len n.gs := hs
   rw [tot_congr fun p hp => len_of (hl p hp), hi.seg, tot_perm _ hp, tot_app, h3]
   omega
  ·rw [get_of (hl p hp2)]; exact hi.right p (hp.mem_iff.2 (List.mem_append.2 (.inl hp2))) hp0
  ·have := hi.most
   show d.segs - segsOf _ ≤ _
   omega
theorem inv_move (hi : DInv d) (hA : Abs A d.top) : DInv (d.move c).1 := by
 rw [Dr.move]
 simp only
 split
 ·exact hi
 ·rename_i h0
  have hp := perm_gs0 (hA.gcount_move (Decidable.of_not_not h0))
  refine ⟨?_, fun p hp2 hp0 => hi.right p (hp.mem_iff.1 hp2) hp0, hi.most⟩
  show d.segs = tot _ _
  rw [tot_perm _ hp]; exact hi.seg
theorem inv_wrap (hi : DInv d) (hA : Abs A d.top) (hB : Abs B (d.wrap c).1.top) : DInv (d.wrap c).1 := by
 rw [Dr.wrap] at hB ⊢
 split at hB
 ·rename_i h; rw [if_pos h]; exact hi
 rename_i hc; rw [if_neg hc]
 have hc := Decidable.of_not_not hc
 simp only at hB ⊢
 split at hB
 ·rename_i h; rw [if_pos h]; exact hi
 rename_i h0; rw [if_neg h0]
 have h0 := Decidable.of_not_not h0
 have hg := Nd.gcount_wrap hA.od h0
 have hod := hB.od
 have hcn := Nd.count_wrap hA.od h0
 simp only at hod ⊢
 generalize (Nd.wrap d.top c.id c.parent c.index c.count).1 = t1 at *
 have hp : t1.gs.Perm ((c.id, true) :: d.top.gs) := List.perm_iff_count.2 fun x => by rw [List.count_cons, hg x]; simp only [beq_iff_eq]
 have hni : c.id ∉ d.top.order := fun h => by
  have h1 := hcn c.id
  rw [if_pos rfl] at h1
  have h2 := nodup_count hod c.id
  have h3 := mem_count.1 h
  omega
 have hl : ∀ p ∈ d.top.gs, Dr.at_ ⟨t1, upAt d.at_ c.id c.atr, d.segs⟩ p.1 = d.at_ p.1 := fun p hp =>
  if_neg (show ¬ p.1 = c.id from fun e => hni (by rw [← e]; exact gs_id hp))
 have h1 : Dr.at_ ⟨t1, upAt d.at_ c.id c.atr, d.segs⟩ c.id = some c.atr := if_pos rfl
 have h2 : Dr.len ⟨t1, upAt d.at_ c.id c.atr, d.segs⟩ c.id = 0 := by
  rw [Dr.len, h1, Option.getD_some, check_grp hc]; rfl
 refine ⟨?_, fun p hp2 hp0 => ?_, hi.most⟩
 ·show d.segs = _
  rw [tot_perm _ hp, tot, tot_congr fun p hp => len_of (hl p hp), ← hi.seg]
  simp only [h2]
  omega
 ·rcases List.mem_cons.1 (hp.mem_iff.1 hp2) with rfl | hp2
  ·simp only
   rw [Dr.get, h1]; exact hc
  ·rw [get_of (hl p hp2)]; exact hi.right p hp2 hp0
theorem inv_unwrap (hi : DInv d) (hA : Abs A d.top) (h00 : d.at_ 0 = none) : DInv (d.unwrap c).1 := by
 rw [Dr.unwrap]
 simp only
 split
 ·exact hi
 ·rename_i h0
  have h0 := Decidable.of_not_not h0
  have hg := hA.gcount_unwrap h0
  have hcn := hA.count_unwrap h0
  generalize (Nd.unwrap d.top c.id).1 = t1 at *
  have hp : d.top.gs.Perm ((c.id, true) :: t1.gs) := List.perm_iff_count.2 fun x => by rw [List.count_cons, ← hg x]; simp only [beq_iff_eq]
  have hni : c.id ∉ t1.order := fun h => by
   have h1 := hcn c.id
   rw [if_pos rfl] at h1
   have h2 := nodup_count hA.od c.id
   have h3 := mem_count.1 h
   omega
  have hl : ∀ p ∈ t1.gs, Dr.at_ ⟨t1, downAt d.at_ c.id, d.segs⟩ p.1 = d.at_ p.1 := fun p hp =>
   if_neg (show ¬ p.1 = c.id from fun e => hni (by rw [← e]; exact gs_id hp))
  have h1 : d.len c.id = 0 := hi.grp h00 (p := (c.id, true)) (hp.mem_iff.2 (.head _)) rfl
  refine ⟨?_, fun p hp2 hp0 => ?_, hi.most⟩
  ·show d.segs = _
   rw [tot_congr fun p hp => len_of (hl p hp), hi.seg, tot_perm _ hp, tot, h1]
   omega
  ·rw [get_of (hl p hp2)]; exact hi.right p (hp.mem_iff.2 (.tail _ hp2)) hp0
theorem inv_set (hi : DInv d) (hA : Abs A d.top) (hdom : ∀ i, (d.at_ i).isSome = true ↔ i ≠ 0 ∧ i ∈ d.top.order) (h6 : 6 ≤ c.kind) : DInv (d.set c).1 := by
 rw [Dr.set]
 split
 ·exact hi
 rename_i h0
 split
 ·exact hi
 rename_i a ha
 split
 ·exact hi
 rename_i hk
 split
 ·exact hi
 rename_i hc
 split
 ·exact hi
 rename_i hm
 have hin := ((hdom c.id).1 (by rw [ha]; rfl)).2
 have hda : d.len c.id = a.path.length := by rw [Dr.len, ha]; rfl
 have hga : d.get c.id = a := by rw [Dr.get, ha]; rfl
 have hn : (d.top.gs.map Prod.fst).Nodup := by rw [Nd.order_gs]; exact hA.od
 have hlen : Dr.len ⟨d.top, upAt d.at_ c.id (change a c).1, d.segs + (change a c).1.path.length - a.path.length⟩ = fun k => if k = c.id then ((change a c).1.path.length : Int) else d.len k := by
  funext k
  rw [Dr.len, Dr.len]
  simp only [upAt]
  split <;> rfl
 refine ⟨?_, fun p hp hp0 => ?_, by show d.segs + _ - _ ≤ _; omega⟩
 ·show d.segs + _ - _ = tot _ d.top.gs
  rw [hlen, tot_up hn (by rw [Nd.order_gs]; exact hin), ← hi.seg, hda]
 ·have hr := hi.right p hp hp0
  by_cases e : p.1 = c.id
  ·rw [e, hga] at hr
   have h1 : Dr.get ⟨d.top, upAt d.at_ c.id (change a c).1, d.segs + (change a c).1.path.length - a.path.length⟩ p.1 = (change a c).1 := by
    rw [Dr.get]; simp only [upAt, if_pos e]; rfl
   rw [h1]
   refine change_right hr (fun h8 => ?_) (Decidable.of_not_not hc) h6
   cases hg : p.2 with
   | false => rfl
   | true =>
    exact absurd ⟨h8, by
     obtain ⟨m, hm, hmg⟩ := find_gs p hA.od hp
     rw [← e, hm]
     show m.grp = true
     rw [hmg, hg]⟩ hk
  ·rw [get_of (d := d) (show upAt d.at_ c.id (change a c).1 p.1 = d.at_ p.1 from if_neg e)]
   exact hr
theorem inv_apply (hi : DInv d) (hA : Abs A d.top) (hdom : ∀ i, (d.at_ i).isSome = true ↔ i ≠ 0 ∧ i ∈ d.top.order) (hB : Abs B (d.apply c).1.top) : DInv (d.apply c).1 := by
 rw [Dr.apply] at hB ⊢
 by_cases k1 : c.kind = 1
 ·rw [if_pos k1] at hB ⊢; exact inv_add hi hA hB
 rw [if_neg k1] at hB ⊢
 by_cases k2 : c.kind = 2
 ·rw [if_pos k2]; exact inv_remove hi hA
 rw [if_neg k2] at hB ⊢
 by_cases k3 : c.kind = 3
 ·rw [if_pos k3]; exact inv_move hi hA
 rw [if_neg k3] at hB ⊢
 by_cases k4 : c.kind = 4
 ·rw [if_pos k4] at hB ⊢; exact inv_wrap hi hA hB
 rw [if_neg k4] at hB ⊢
 by_cases k5 : c.kind = 5
 ·rw [if_pos k5]
  exact inv_unwrap hi hA (by
   cases h : d.at_ 0 with
   | none => rfl
   | some a => exact absurd rfl ((hdom 0).1 (by rw [h]; rfl)).1)
 rw [if_neg k5] at hB ⊢
 by_cases k6 : 6 ≤ c.kind ∧ c.kind ≤ 12
 ·rw [if_pos k6]; exact inv_set hi hA hdom k6.1
 ·rw [if_neg k6]; exact hi
theorem set_top : (d.set c).1.top = d.top := by
 rw [Dr.set]
 repeat' split
 all_goals rfl
theorem apply_step : Nd.Step1 d.top (d.apply c).1.top := by
 rw [Dr.apply]
 by_cases k1 : c.kind = 1
 ·rw [if_pos k1, Dr.add]
  repeat' split
  all_goals first | exact .inl rfl | exact .inr (.inl ⟨_, _, _, rfl⟩)
 rw [if_neg k1]
 by_cases k2 : c.kind = 2
 ·rw [if_pos k2, Dr.remove]
  simp only
  split
  ·exact .inl rfl
  ·exact .inr (.inr (.inl ⟨_, rfl⟩))
 rw [if_neg k2]
 by_cases k3 : c.kind = 3
 ·rw [if_pos k3, Dr.move]
  simp only
  split
  ·exact .inl rfl
  ·exact .inr (.inr (.inr (.inl ⟨_, _, _, rfl⟩)))
 rw [if_neg k3]
 by_cases k4 : c.kind = 4
 ·rw [if_pos k4, Dr.wrap]
  simp only
  repeat' split
  all_goals first | exact .inl rfl | exact .inr (.inr (.inr (.inr (.inl ⟨_, _, _, _, rfl⟩))))
 rw [if_neg k4]
 by_cases k5 : c.kind = 5
 ·rw [if_pos k5, Dr.unwrap]
  simp only
  split
  ·exact .inl rfl
  ·exact .inr (.inr (.inr (.inr (.inr ⟨_, rfl⟩))))
 rw [if_neg k5]
 by_cases k6 : 6 ≤ c.kind ∧ c.kind ≤ 12
 ·rw [if_pos k6, set_top]; exact .inl rfl
 ·rw [if_neg k6]; exact .inl rfl
structure Fit (d : Dr) : Prop where
 inv : DInv d
 good : Nd.Good d.top
theorem Fit.apply (h : Fit d) (hA : Abs A d.top) (hdom : ∀ i, (d.at_ i).isSome = true ↔ i ≠ 0 ∧ i ∈ d.top.order) (hB : Abs B (d.apply c).1.top) : Fit (d.apply c).1 :=
 ⟨inv_apply h.inv hA hdom hB, h.good.step hA apply_step⟩
theorem Fit.new : Fit Dr.new := ⟨⟨rfl, fun p hp h => by
  have hp : p ∈ [((0 : Int), true)] := hp
  exact absurd (by rw [List.mem_singleton.1 hp]) h, by decide⟩, Nd.Rch.start.good⟩
theorem checked_le {l : List Sg} : (checked l).1.length ≤ l.length := by
 rw [checked]
 split
 ·exact Nat.zero_le _
 ·exact Nat.le_refl _
theorem change_le {a : Atr} (h : c.small) : (change a c).1.path.length ≤ a.path.length + 30 := by
 have hp : c.atr.path.length ≤ 30 := h.2.1.1
 rw [change]
 by_cases k : c.kind = 6
 ·rw [if_pos k]; show a.path.length ≤ _; omega
 rw [if_neg k]
 by_cases k : c.kind = 7
 ·rw [if_pos k]; show a.path.length ≤ _; omega
 rw [if_neg k]
 by_cases k : c.kind = 8
 ·rw [if_pos k]; show c.atr.path.length ≤ _; omega
 rw [if_neg k]
 by_cases k : c.kind = 9
 ·rw [if_pos k]
  show (pathInsert a.path c.i c.seg).1.length ≤ _
  rw [pathInsert]
  split
  ·exact Nat.zero_le _
  split
  ·exact Nat.zero_le _
  rename_i h2
  have := checked_le (l := a.path.take c.i.toNat ++ c.seg :: a.path.drop c.i.toNat)
  simp only [List.length_append, List.length_cons, List.length_take, List.length_drop] at this
  omega
 rw [if_neg k]
 by_cases k : c.kind = 10
 ·rw [if_pos k]
  show (pathDelete a.path c.i).1.length ≤ _
  rw [pathDelete]
  split
  ·exact Nat.zero_le _
  have := checked_le (l := a.path.take c.i.toNat ++ a.path.drop (c.i.toNat + 1))
  simp only [List.length_append, List.length_cons, List.length_take, List.length_drop] at this
  omega
 rw [if_neg k]
 by_cases k : c.kind = 11
 ·rw [if_pos k]
  show (pathPut a.path c.i c.k c.point).1.length ≤ _
  rw [pathPut]
  split
  ·exact Nat.zero_le _
  split
  ·exact Nat.zero_le _
  have := checked_le (l := a.path.set c.i.toNat ((sgAt a.path c.i).setPoint c.k.toNat c.point))
  simp only [List.length_set] at this
  omega
 rw [if_neg k]
 show (pathSplit a.path c.i).1.length ≤ _
 rw [pathSplit]
 split
 ·exact Nat.zero_le _
 split
 ·exact Nat.zero_le _
 split
 ·exact Nat.zero_le _
 simp only [List.length_append, List.length_cons, List.length_take, List.length_drop]
 omega
theorem small_segs (h : c.small) : segsOf c.ents ≤ 1200 := by
 have h1 := segsOf_le (m := 30) (l := c.ents) fun x hx => (h.2.2 x hx).1
 have h2 := h.1
 have : (c.ents.length : Int) * (30 : Nat) ≤ 40 * 30 := by
  have : (c.ents.length : Int) ≤ 40 := by omega
  omega
 omega
theorem apply_segs (h : c.small) : (d.apply c).1.segs ≤ d.segs + 1200 := by
 have hs := small_segs h
 rw [Dr.apply]
 by_cases k1 : c.kind = 1
 ·rw [if_pos k1, Dr.add]
  repeat' split
  all_goals first | (show d.segs ≤ _; omega) | (show d.segs + segsOf _ ≤ _; omega)
 rw [if_neg k1]
 by_cases k2 : c.kind = 2
 ·rw [if_pos k2, Dr.remove]
  simp only
  split
  ·show d.segs ≤ _; omega
  ·have := segsOf_nonneg (ents d.get (Nd.remove d.top c.id).2.1)
   show d.segs - _ ≤ _; omega
 rw [if_neg k2]
 by_cases k3 : c.kind = 3
 ·rw [if_pos k3, Dr.move]
  simp only
  split <;> (show d.segs ≤ _; omega)
 rw [if_neg k3]
 by_cases k4 : c.kind = 4
 ·rw [if_pos k4, Dr.wrap]
  simp only
  repeat' split
  all_goals (show d.segs ≤ _; omega)
 rw [if_neg k4]
 by_cases k5 : c.kind = 5
 ·rw [if_pos k5, Dr.unwrap]
  simp only
  split <;> (show d.segs ≤ _; omega)
 rw [if_neg k5]
 by_cases k6 : 6 ≤ c.kind ∧ c.kind ≤ 12
 ·rw [if_pos k6, Dr.set]
  split
  ·show d.segs ≤ _; omega
  split
  ·show d.segs ≤ _; omega
  rename_i a ha
  have := change_le (a := a) h
  repeat' split
  all_goals first | (show d.segs ≤ _; omega) | (show d.segs + _ - _ ≤ _; omega)
 ·rw [if_neg k6]; show d.segs ≤ _; omega
end
end Go.Dc

namespace Go.Dc
open Go.Sl Go.Ls Go.Tr
def Agr (at_ : Int → Option Atr) (d : Dr) : Prop := ∀ i ∈ d.top.order, i ≠ 0 → at_ i = d.at_ i
theorem entss_re (at_ : Int → Atr) (l : List Nd) : (entss at_ l).map Ent.re = lsts l := by
 have h := ents_re at_ (.mk 0 false l)
 rw [ents_eq, lst_eq] at h
 simp only [List.map_cons] at h
 injection h
theorem entries_eq (d : Dr) : d.entries = entss d.get d.top.kids := by rw [Dr.entries, ents_eq]; rfl
theorem entries_atr {d : Dr} {x : Ent} (h : x ∈ d.entries) : x ∈ ents d.get d.top := List.mem_of_mem_tail h
theorem entries_id {A : Ar} {d : Dr} (hA : Abs A d.top) {x : Ent} (h : x ∈ d.entries) : x.id ∈ d.top.order ∧ x.id ≠ 0 := by
 have h1 : x.id ∈ Nd.orders d.top.kids := by
  have hi := ents_ids d.get d.top
  rw [ents_eq, Nd.order_eq, List.map_cons] at hi
  injection hi with _ hi
  rw [← hi, ← entries_eq]
  exact List.mem_map_of_mem h
 refine ⟨Nd.orders_kids h1, fun e => ?_⟩
 have ho := hA.od
 rw [Nd.order_eq, List.nodup_cons] at ho
 rw [e, ← hA.id0] at h1
 exact ho.1 h1
theorem entries_segs {A : Ar} {d : Dr} (hi : DInv d) (hA : Abs A d.top) (h0 : d.at_ 0 = none) : segsOf d.entries = d.segs := by
 have h1 := segsOf_ents d.get d.top
 rw [ents_eq] at h1
 have h2 : (d.get d.top.id).path.length = 0 := by rw [hA.id0, Dr.get, h0]; rfl
 have h3 : ((d.get d.top.id).path.length : Int) + segsOf (entss d.get d.top.kids) = tot (fun i => ((d.get i).path.length : Int)) d.top.gs := h1
 rw [h2] at h3
 rw [entries_eq, hi.seg]
 have h4 : tot (fun i => ((d.get i).path.length : Int)) d.top.gs = tot d.len d.top.gs := rfl
 rw [← h4, ← h3]
 simp
end Go.Dc
namespace Go.Proofs.YtggcpoleklcmkaaGreatDoor
open Go.Sl Go.Ls Go.Tr Go.Dc
attribute [local irreducible] WC WL WX WK WA WAK Val Ctr RunRes ResIs Rd At sl box pt Exit.then Exit.inBlock bodyPost Code.wp wpList
theorem mIs (D : Dm) (d : Dr) (I : Mem) (hD : DAbs I D d) (hi : DInv d) (kv : Value) (at_ : Int → Option Atr) (f : Int → Option Value) (g mb cnt : Nat) (hkv : LsAt Nd.Rp I d.top.kids kv) (hat : AtRep I at_ f) (hag : Agr at_ d) :
  Ctr Tryz.prog 25 [ptr g, ptr D.b] I (mbox g mb d.top kv :: mp mb f cnt :: D.hp) (KeepR (mbox g mb d.top kv :: mp mb f cnt :: D.hp) fun v _ => v = .bool true) := by
 have hsz := hD.abs.size_le
 have hpos := d.top.size_pos
 have hit : I64 d.top.id := by rw [hD.abs.id0]; exact ⟨by decide, by decide⟩
 have hkv0 := hkv
 have h00 : d.at_ 0 = none := by
  cases h : d.at_ 0 with
  | none => rfl
  | some a => exact absurd rfl ((hD.dom 0).1 (by rw [h]; rfl)).1
 have hseg := entries_segs hi hD.abs h00
 have hll := lst_len d.top
 have hrr : d.entries.map Ent.re = lsts d.top.kids := by rw [entries_eq]; exact entss_re _ _
 have hell : d.entries.length = d.top.size - 1 := by
  rw [Dr.entries, List.length_tail, ents_len]
 have hlim : ∀ x ∈ d.entries, x.atr.path.length ≤ 1000000 := fun x hx => by
  rw [ents_atr (entries_atr hx)]
  show ((d.at_ x.id).getD Atr.z).path.length ≤ _
  cases h : d.at_ x.id with
  | none => exact Nat.zero_le _
  | some a => exact (hD.lim _ _ h).1
 obtain ⟨ka, kc, rfl⟩ := hkv.sl
 refine Ctr.intro Tryz.func25 rfl rfl rfl fun E F => ?_
 refine jS (jg rfl (jN (jd rfl (jm (jr rfl) (jm (jn rfl) (jm (jt 1 rfl rfl rfl) (WL.callR [] rfl rfl rfl (list_ctr _ d.top (Nat.le_refl _) _ _ (by omega) hkv0 hit) rfl ?_)))))))
 rintro v1 I1 hI1 hv1
 obtain ⟨b1, o1, p1, cs1, he1, _, _⟩ := hv1.get 0 (by omega)
 subst he1
 have hw1 := hv1.drop2 1 (by omega)
 have hcp := hv1.cap
 refine jm (Val.sliceFrom2 (m := 1) rfl rfl (by omega) (by omega)) ?_
 have hdl : (lst d.top).drop 1 = lsts d.top.kids := by rw [lst_eq]; rfl
 rw [hdl] at hw1
 have hw10 := hw1
 obtain ⟨wa, wc, hw1e⟩ := hw1.sl
 rw [hw1e] at hw10 ⊢
 refine jh rfl (jN (jd rfl (WL.callR [3, 3, 3, 3, 3, 3, 3] rfl rfl rfl (dEntries D d _ (hD.mono hI1)) rfl ?_)))
 rintro v2 I2 hI2 hv2
 have hv20 := hv2
 obtain ⟨ea, ec, rfl⟩ := hv2.sl
 have hlen : (lsts d.top.kids).length = d.entries.length := by rw [← hrr, List.length_map]
 rw [hlen] at hw10 ⊢
 refine jh rfl (jM (jB (jS (jc rfl (jm (jo rfl) (jc rfl (jm (jo rfl) (jz rfl rfl (jM (jE (jV (jK (jf rfl (jM (jB (jS (jc rfl (WL.callR [] rfl rfl rfl (refs_ctr d.entries _ _ hv20 (by omega)) rfl ?_))))))))))))))))))
 rintro v3 I3 hI3 hv3
 rw [hrr] at hv3
 have hv30 := hv3
 obtain ⟨ra, rc, rfl⟩ := hv3.sl
 rw [hlen] at hv30 ⊢
 have hJ2 := hI1.trans hI2
 have hJ3 := hJ2.trans hI3
 refine jm (jo rfl) (ja rfl (jM (WC.block ?_)))
 refine WC.loop (fun n ρ' I' L' => ∃ k : Nat, n = d.entries.length - k ∧ k ≤ d.entries.length ∧ I3.le I' ∧ ρ' 0 = ptr g ∧ ρ' 1 = ptr D.b ∧ ρ' 5 = .slice wa d.entries.length wc ∧ ρ' 6 = .slice ea d.entries.length ec ∧ ρ' 7 = vi (segsOf (d.entries.take k)) ∧ ρ' 26 = .slice ra d.entries.length rc ∧ ρ' 27 = vi d.entries.length ∧ ρ' 28 = vi k ∧
   L' = F :: mbox g mb d.top (.slice ka d.top.kids.length kc) :: mp mb f cnt :: D.hp)
  d.entries.length ⟨0, rfl, by omega, Mem.le.refl _, rfl, rfl, rfl, rfl, rfl, rfl, rfl, rfl, rfl⟩ ?_
 rintro n ρ' I4 L' ⟨k, rfl, hk, hI4, r0, r1, r5, r6, r7, r26, r27, r28, rfl⟩
 refine ju8 r28 r27 r26 r7 r6 r5 r1 r0 ?_
 have hJ4 := hJ3.trans hI4
 by_cases hkn : k < d.entries.length
 ·obtain ⟨b5, off5, cap5, cs5, he5, ⟨t5, u5, d5, q5, rfl, hx⟩, hA5⟩ := (hv20.mono (hI3.trans hI4)).get k hkn
  cases he5
  have hwk := (hw10.mono (hI2.trans (hI3.trans hI4))).get k (by rw [hlen]; exact hkn)
  have hrk := (hv30.mono hI4).get k (by rw [hlen]; exact hkn)
  have hge : ∀ (h : k < (lsts d.top.kids).length), (lsts d.top.kids)[k] = (d.entries[k]).re := fun h => by
   simp only [← hrr, List.getElem_map]
  rw [hge] at hwk hrk
  obtain ⟨b6, off6, cap6, cs6, he6, ⟨rfl, hx6, hx7⟩, hA6⟩ := hwk
  injection he6 with h61 _ h62
  subst h61; subst h62
  obtain ⟨b7, off7, cap7, cs7, he7, ⟨rfl, hx8, hx9⟩, hA7⟩ := hrk
  injection he7 with h71 _ h72
  subst h71; subst h72
  have hmem := List.getElem_mem hkn
  obtain ⟨hid, hid0⟩ := entries_id hD.abs hmem
  have hxat := ents_atr (entries_atr hmem)
  have htk : segsOf (d.entries.take (k + 1)) = segsOf (d.entries.take k) + (d.entries[k]).atr.path.length := by rw [List.take_succ_eq_append_getElem hkn, segsOf_snoc]
  have hb1 := segsOf_le (m := 1000000) (l := d.entries.take k) fun x hx => hlim x (List.mem_of_mem_take hx)
  have hb0 := segsOf_nonneg (d.entries.take k)
  have hb2 := hlim _ hmem
  rw [List.length_take, Nat.min_eq_left (by omega)] at hb1
  generalize hy : d.entries[k] = y at *
  obtain ⟨ta, ua, da, qa, hv, haa⟩ := (hat.mono hJ4).get y.id
  have hgt : (at_ y.id).getD Atr.z = y.atr := by rw [hag _ hid hid0, hxat]; rfl
  rw [hgt] at haa hv
  have hgs : (d.at_ y.id).isSome = true := (hD.dom y.id).2 ⟨hid0, hid⟩
  have hx0 := hx
  have haa0 := haa
  obtain ⟨z1, w1, z2, w2, z3, w3, z4, w4, rfl, rfl, rfl, rfl⟩ := hx.sl
  obtain ⟨a1, c1, a2, c2, a3, c3, a4, c4, rfl, rfl, rfl, rfl⟩ := haa.sl
  refine jS (jy rfl rfl (jM (jB (jF (jV (jA (jB (WC.block (jS (ja rfl (jm (jZ rfl rfl) (jm (Val.loadI rfl (by assumption) rfl) ?_))))))))))))
  refine WL.alloc rfl (fun _ => ?_)
  refine jW ?_
  refine jf rfl (WL.stA 10 rfl rfl rfl rfl ?_)
  refine jN (jd rfl (jm (jn rfl) (jm (jp 10 rfl rfl rfl) (WL.callR [3, 3] rfl rfl rfl (dGet d.at_ D.f D.b D.A.b D.mb D.cnt D.segs y.id _ (hD.rep.mono hJ4) hD.lim) rfl ?_))))
  rintro _ I5 hI5 ⟨_, rfl, ⟨s1, s2, s3, s4, rfl, hsa⟩⟩
  rw [show (d.at_ y.id).getD Atr.z = y.atr from hxat.symm] at hsa ⊢
  rw [hgs]
  have hsa0 := hsa
  obtain ⟨m1, n1, m2, n2, m3, n3, m4, n4, rfl, rfl, rfl, rfl⟩ := hsa.sl
  refine je rfl (jm (Val.extractA rfl rfl) (jm (Val.extractB rfl rfl) (WL.alloc rfl (fun _ => ?_))))
  refine jW ?_
  refine WL.stA 11 rfl rfl rfl rfl ?_
  refine jg rfl (jM (jB (jB ?_)))
  have hA5' := hA5.mono hI5
  have hA6' := hA6.mono hI5
  have hJ5 := hJ4.trans hI5
  have hA53 : At I5 b5 (off5 + (k : Int).toNat * 37 + 3) (Atr.cs y.atr (.slice z1 y.atr.sty.fill.stops.length w1) (.slice z2 y.atr.sty.pen.stops.length w2) (.slice z3 y.atr.sty.dash.length w3) (.slice z4 y.atr.path.length w4)) := At.sub 34 hA5' rfl
  have haa5 := haa0.mono hI5
  have hxa5 := hx0.atr.mono hI5
  refine j8 999 [1, 1, 8, 8] rfl (jT 0 rfl (jt 2 rfl rfl rfl) (jT 1 rfl (Val.moveS rfl) (jT 2 rfl (Val.moveI rfl) (jT 3 rfl (jZ rfl rfl) (jT 4 rfl (Val.loadI rfl (by assumption) rfl) ?_)))))
  refine jT 5 rfl (Val.neqSame rfl rfl rfl) ?_
  refine jT 6 rfl (Val.moveB rfl) (jT 7 rfl (Val.moveS rfl) (jT 8 rfl (Val.moveI rfl) (jT 9 rfl (jZ rfl rfl) (jT 10 rfl (jn rfl) (jT 11 rfl (Val.loadI rfl (by assumption) rfl) ?_)))))
  refine jT 12 rfl (Val.moveP rfl) (jT 13 rfl (jr rfl) (jT 14 rfl (jn rfl) (jT 15 rfl (jp 0 rfl rfl rfl) (jT 16 rfl (jn rfl) (jT 17 rfl (jp 2 rfl rfl rfl) (jT 18 rfl (Val.lookup1v 1 hv rfl rfl rfl) ?_))))))
  refine j5 19 rfl (jG ?_)
  refine WL.callE rfl rfl (eqAtr y.atr y.atr _ _ _ _ _ _ _ _ _ hxa5 haa5) rfl (fun h => ?_) (fun h => absurd rfl h)
  refine jC (j7 [1, 1, 8, 8] rfl (jT 20 rfl (Val.not rfl) (jT 21 rfl (Val.pick rfl) (jT 22 rfl (Val.moveB rfl) (jT 23 rfl (Val.moveB rfl) (jT 24 rfl (Val.not rfl) (jT 25 rfl (Val.pick rfl) (jT 26 rfl (Val.moveB rfl) (jT 27 rfl (jt 3 rfl rfl rfl) (jT 28 rfl (Val.moveS rfl) (jT 29 rfl (Val.moveI rfl) (jT 30 rfl (jZ rfl rfl) (jT 31 rfl (jn rfl) (jT 32 rfl (Val.loadI rfl (by assumption) rfl) ?_))))))))))))))
  refine j5 33 rfl (jG ?_)
  refine WL.callE rfl rfl (eqAtr y.atr y.atr _ _ _ _ _ _ _ _ _ hsa0 hxa5) rfl (fun h => ?_) (fun h => absurd rfl h)
  refine jC (j7 [1, 1, 8, 8] rfl (jT 34 rfl (Val.not rfl) (jT 35 rfl (Val.pick rfl) (j6 (jA (jE (jV (jA (jD (ja rfl (jm (jn rfl) (jm (jp 11 rfl rfl rfl) (jm (jo rfl) (jX rfl rfl (jf rfl (jC (WX.inNormal (jA (jD (jX rfl rfl (ja rfl (jC (WX.conv (fun w h => h.sub [0, 0, 0, 0, 0, 0, 0, 0, 0, 0] rfl) ?_)))))))))))))))))))))))
  refine WX.thenK (WK.round (d.entries.length - (k + 1)) (by omega) ⟨k + 1, rfl, by omega, hI4.trans hI5, rfl, rfl, rfl, rfl, ?_, rfl, rfl, rfl, rfl⟩)
  rw [htk]; rfl
 ·have hke : k = d.entries.length := by omega
  subst hke
  rw [List.take_length, hseg]
  refine jS (jx rfl rfl (jM (jB (jE (WC.exit (WX.thenExit (WX.thenExit (WX.inHit (jK (jd rfl (WL.callK [3] rfl rfl rfl (dNodes D.b D.A.b D.mb D.segs _) rfl ?_)))))))))))
  rintro _ rfl
  rw [hD.segs]
  refine ja rfl (jw rfl rfl (jg rfl (jM (jR ?_))))
  exact jP [0, 0, 0, 0, 0, 0, 0, 0, 0] (jr1 rfl (jtB rfl)) ⟨rfl, rfl⟩
end Go.Proofs.YtggcpoleklcmkaaGreatDoor

namespace Go.Dc
open Go.Sl Go.Ls Go.Tr
theorem putAll_mem : ∀ {l : List Ent} {f g : Int → Option Atr} {i : Int}, i ∈ l.map Ent.id → putAll f l i = putAll g l i
 | [], _, _, _, h => by cases h
 | x :: l, f, g, i, h => by
  rw [putAll, putAll]
  by_cases hi : i ∈ l.map Ent.id
  ·exact putAll_mem hi
  ·rw [putAll_ne hi, putAll_ne hi]
   have : i = x.id := by
    rcases List.mem_cons.1 h with h | h
    ·exact h
    ·exact absurd h hi
   rw [upAt, upAt, if_pos this, if_pos this]
theorem agr_put {l : List Ent} {f g : Int → Option Atr} {i : Int} (h : i ∉ l.map Ent.id → f i = g i) : putAll f l i = putAll g l i := by
 by_cases hi : i ∈ l.map Ent.id
 ·exact putAll_mem hi
 ·rw [putAll_ne hi, putAll_ne hi, h hi]
section
variable {A B : Ar} {d : Dr} {c : Cm} {at_ : Int → Option Atr}
theorem mset_set (hA : Abs A d.top) (hdom : ∀ i, (d.at_ i).isSome = true ↔ i ≠ 0 ∧ i ∈ d.top.order) (hag : Agr at_ d) (hs : d.segs + 1200 ≤ 1048576) (hsm : c.small) :
  (mset d.top at_ c).2 = (d.set c).2.2 ∧ Agr (mset d.top at_ c).1 (d.set c).1 := by
 by_cases h0 : c.id = 0
 ·rw [mset, if_pos h0, Dr.set, if_pos h0]; exact ⟨rfl, hag⟩
 have hf : (Nd.find c.id d.top).isSome = true ↔ c.id ∈ d.top.order := Nd.find_some c.id d.top
 rw [mset, if_neg h0, Dr.set, if_neg h0]
 cases ha : d.at_ c.id with
 | none =>
  have : (Nd.find c.id d.top).isSome = false := by
   cases h : (Nd.find c.id d.top).isSome with
   | false => rfl
   | true =>
    have := (hdom c.id).2 ⟨h0, hf.1 h⟩
    rw [ha] at this; cases this
  rw [if_pos this]
  exact ⟨rfl, hag⟩
 | some a =>
  have hin := ((hdom c.id).1 (by rw [ha]; rfl)).2
  have hfs := hf.2 hin
  rw [if_neg (by rw [hfs]; decide)]
  have hga : (at_ c.id).getD Atr.z = a := by rw [hag _ hin h0, ha]; rfl
  rw [hga]
  have hgr : ((Nd.find c.id d.top).getD Nd.zero).grp = ((Nd.find c.id d.top).map Nd.grp).getD false := by
   cases Nd.find c.id d.top <;> rfl
  rw [hgr]
  simp only
  by_cases hg : 8 ≤ c.kind ∧ ((Nd.find c.id d.top).map Nd.grp).getD false = true
  ·rw [if_pos hg, if_pos hg]; exact ⟨rfl, hag⟩
  rw [if_neg hg, if_neg hg]
  by_cases he : (change a c).2.2 ≠ 0
  ·rw [if_pos he, if_pos he]; exact ⟨rfl, hag⟩
  rw [if_neg he, if_neg he]
  have hle := change_le (a := a) hsm
  have hm : ¬ mostSegs < d.segs + (change a c).1.path.length - a.path.length := by
   show ¬ (1048576 : Int) < _
   omega
  rw [if_neg hm]
  refine ⟨rfl, fun i hi hi0 => ?_⟩
  show upAt at_ c.id _ i = upAt d.at_ c.id _ i
  rw [upAt, upAt, hag i hi hi0]
theorem mdo_apply (hA : Abs A d.top) (hi : DInv d) (hdom : ∀ i, (d.at_ i).isSome = true ↔ i ≠ 0 ∧ i ∈ d.top.order) (hag : Agr at_ d) (hs : d.segs + 1200 ≤ 1048576) (hsm : c.small) :
  (mdo d.top at_ c).1 = (d.apply c).1.top ∧ (mdo d.top at_ c).2.2 = (d.apply c).2.2 ∧ Agr (mdo d.top at_ c).2.1 (d.apply c).1 := by
 rw [mdo, Dr.apply]
 by_cases k1 : c.kind = 1
 ·rw [if_pos k1, if_pos k1, Dr.add]
  by_cases hW : ¬ Whole c.ents
  ·rw [if_pos hW, if_pos hW]; exact ⟨rfl, rfl, hag⟩
  rw [if_neg hW, if_neg hW]
  by_cases hw : firstWrong c.ents ≠ 0
  ·rw [if_pos hw, if_pos hw]; exact ⟨rfl, rfl, hag⟩
  rw [if_neg hw, if_neg hw]
  have hse := small_segs hsm
  rw [if_neg (show ¬ mostSegs - d.segs < segsOf c.ents by show ¬ (1048576 : Int) - d.segs < _; omega)]
  obtain ⟨n, hn⟩ := (Whole_iff _).1 (Decidable.of_not_not hW)
  have hids := Tk_order hn
  simp only [List.map_nil, List.append_nil] at hids
  rw [nodeOf_eq hn]
  by_cases he : (Nd.add d.top c.parent c.index n).2 = 0
  ·rw [if_pos he, if_neg (fun e => e he)]
   refine ⟨rfl, he, fun i hi hi0 => agr_put fun hni => ?_⟩
   have hc := Nd.count_add hA.od he i
   rw [hids] at hni
   have h1 : i ∈ d.top.order := by
    rw [mem_count]
    have h2 := mem_count.1 (show i ∈ (Nd.add d.top c.parent c.index n).1.order from hi)
    have h3 : n.order.count i = 0 := List.count_eq_zero_of_not_mem hni
    omega
   exact hag i h1 hi0
  ·rw [if_neg he, if_pos he]
   exact ⟨Nd.add_err he, rfl, hag⟩
 rw [if_neg k1, if_neg k1]
 by_cases k2 : c.kind = 2
 ·rw [if_pos k2, if_pos k2, Dr.remove]
  simp only
  by_cases he : (Nd.remove d.top c.id).2.2.2.2 = 0
  ·rw [if_neg (fun e => e he)]
   refine ⟨rfl, he, fun i hi hi0 => ?_⟩
   obtain ⟨o1, o2, o3, o4, o5⟩ := hA.rem_nodup he
   have hc := hA.count_rem he i
   have h1 : i ∈ d.top.order := by
    rw [mem_count]
    have h2 := mem_count.1 (show i ∈ (Nd.remove d.top c.id).1.order from hi)
    omega
   show at_ i = dropAll d.at_ _ i
   rw [dropAll_ne (by rw [ents_ids]; exact o3 i hi)]
   exact hag i h1 hi0
  ·rw [if_pos he]
   refine ⟨?_, rfl, hag⟩
   rcases hA.rem c.id with ⟨_, h⟩ | ⟨p, k, hk, _, _, _, _, _, e, _⟩
   ·exact h
   ·rw [e] at he; exact absurd rfl he
 rw [if_neg k2, if_neg k2]
 by_cases k3 : c.kind = 3
 ·rw [if_pos k3, if_pos k3, Dr.move]
  simp only
  by_cases he : (Nd.move d.top c.id c.parent c.index).2 = 0
  ·rw [if_neg (fun e => e he)]
   refine ⟨rfl, he, fun i hi hi0 => hag i ?_ hi0⟩
   have hc := hA.count_move he i
   rw [mem_count] at hi ⊢
   have h2 : 0 < (Nd.move d.top c.id c.parent c.index).1.order.count i := hi
   omega
  ·rw [if_pos he]
   exact ⟨Nd.move_err he, rfl, hag⟩
 rw [if_neg k3, if_neg k3]
 by_cases k4 : c.kind = 4
 ·rw [if_pos k4, if_pos k4, Dr.wrap]
  by_cases hw : c.atr.check true ≠ 0
  ·rw [if_pos hw, if_pos hw]; exact ⟨rfl, rfl, hag⟩
  rw [if_neg hw, if_neg hw]
  simp only
  by_cases he : (Nd.wrap d.top c.id c.parent c.index c.count).2 = 0
  ·rw [if_pos he, if_neg (fun e => e he)]
   refine ⟨rfl, he, fun i hi hi0 => ?_⟩
   show upAt at_ c.id _ i = upAt d.at_ c.id _ i
   rw [upAt, upAt]
   by_cases hic : i = c.id
   ·rw [if_pos hic, if_pos hic]
   ·rw [if_neg hic, if_neg hic]
    have hc := Nd.count_wrap hA.od he i
    rw [if_neg (fun e => hic e.symm)] at hc
    refine hag i ?_ hi0
    rw [mem_count] at hi ⊢
    have h2 : 0 < (Nd.wrap d.top c.id c.parent c.index c.count).1.order.count i := hi
    omega
  ·rw [if_neg he, if_pos he]
   exact ⟨Nd.wrap_err he, rfl, hag⟩
 rw [if_neg k4, if_neg k4]
 by_cases k5 : c.kind = 5
 ·rw [if_pos k5, if_pos k5, Dr.unwrap]
  simp only
  by_cases he : (Nd.unwrap d.top c.id).2.2.2.2 = 0
  ·rw [if_neg (fun e => e he)]
   refine ⟨rfl, he, fun i hi hi0 => ?_⟩
   have hc := hA.count_unwrap he i
   have h2 : 0 < (Nd.unwrap d.top c.id).1.order.count i := mem_count.1 hi
   have h3 := nodup_count hA.od i
   show at_ i = downAt d.at_ c.id i
   have hic : ¬ i = c.id := fun e => by rw [if_pos e.symm] at hc; omega
   rw [downAt, if_neg hic]
   rw [if_neg (fun e => hic e.symm)] at hc
   refine hag i ?_ hi0
   rw [mem_count]
   omega
  ·rw [if_pos he]
   exact ⟨Nd.unwrap_err he, rfl, hag⟩
 rw [if_neg k5, if_neg k5]
 by_cases k6 : 6 ≤ c.kind ∧ c.kind ≤ 12
 ·rw [if_pos k6, if_pos k6]
  obtain ⟨h1, h2⟩ := mset_set hA hdom hag hs hsm
  exact ⟨set_top.symm, h1, h2⟩
 ·rw [if_neg k6, if_neg k6]; exact ⟨rfl, rfl, hag⟩
end
end Go.Dc

namespace Go.Proofs.YtggcpoleklcmkaaGreatDoor
open Go.Sl Go.Ls Go.Tr Go.Dc
attribute [local irreducible] WC WL WX WK WA WAK Val Ctr RunRes ResIs Rd At sl box pt Exit.then Exit.inBlock bodyPost Code.wp wpList
def DPlayR (n : Nat) : Value → Mem → List HP → Prop := fun v I' L' => ∃ (D : Dm) (d : Dr) (g mb cnt : Nat) (kv : Value) (at_ : Int → Option Atr) (f : Int → Option Value), v = .tuple #[ptr D.b, ptr g, .bool true] ∧ L' = mbox g mb d.top kv :: mp mb f cnt :: D.hp ∧
 DAbs I' D d ∧ Fit d ∧ LsAt Nd.Rp I' d.top.kids kv ∧ AtRep I' at_ f ∧ Agr at_ d ∧ d.segs ≤ 1200 * (n : Int)
theorem dPlay (l : List Cm) (v : Value) (I : Mem) (hN : NeedAt I) (hv : LsAt Cm.rep I l v) (hs : ∀ c ∈ l, c.small) (hl : l.length ≤ 200) : Ctr Tryz.prog 23 [v] I [] (DPlayR l.length) := by
 have hv0 := hv
 obtain ⟨a1, c1, rfl⟩ := hv.sl
 refine Ctr.intro Tryz.func23 rfl rfl rfl fun E F => ?_
 refine jS (ji rfl (ji rfl (jg rfl (jN (WL.callP [] rfl rfl (dNew _) rfl ?_)))))
 rintro _ I1 _ _ ⟨rfl, b, tb, mb0, cg, db, rfl, rfl⟩
 have hD0 := new_abs I1 b mb0 cg db tb
 generalize hDe : ({ b := db, A := Ar.fresh b mb0 cg, mb := tb, f := fun _ => none, cnt := 0, segs := 0 } : Dm) = D0 at hD0
 have hL0 : docBox db b tb 0 :: mp tb (fun _ => none) 0 :: (Ar.fresh b mb0 cg).hp = D0.hp := by rw [← hDe]; rfl
 have hb0 : db = D0.b := by rw [← hDe]
 rw [hL0, hb0]
 clear hL0 hb0 hDe
 refine jW ?_
 refine ji rfl (jN (jm (Val.build (cs := [vi 0, .bool true, .slice none 0 0]) rfl) ?_))
 refine WL.makeMap rfl fun mb => ?_
 refine jW ?_
 refine jm (Val.build (cs := [vi 0, .bool true, .slice none 0 0, .map (some mb)]) rfl) ?_
 refine WL.boxA rfl rfl (fun _ => ?_)
 refine jW ?_
 refine ji rfl (jM (jB (jS (jd rfl ?_))))
 rename_i g
 refine jm (Val.eqlNilP rfl) ?_
 refine jM (jE (jV (jA (jB (jS (jc rfl (jm (jo rfl) (ja rfl (jM (WC.block (WC.conv (fun w h => h.sub [0, 8, 7, 0, 0, 0, 0, 0, 0, 0] rfl) ?_)))))))))))
 refine WC.loop (fun n ρ' I' L' => ∃ (k : Nat) (D : Dm) (d : Dr) (cnt : Nat) (kv : Value) (at_ : Int → Option Atr) (f : Int → Option Value), n = l.length - k ∧ k ≤ l.length ∧ I1.le I' ∧ ρ' 5 = ptr D.b ∧ ρ' 6 = ptr g ∧ ρ' 20 = .slice a1 l.length c1 ∧ ρ' 21 = vi l.length ∧ ρ' 22 = vi k ∧
   L' = F :: mbox g mb d.top kv :: mp mb f cnt :: D.hp ∧ DAbs I' D d ∧ Fit d ∧ LsAt Nd.Rp I' d.top.kids kv ∧ AtRep I' at_ f ∧ Agr at_ d ∧ d.segs ≤ 1200 * (k : Int))
  l.length ⟨0, D0, Dr.new, 0, _, fun _ => none, _, rfl, by omega, Mem.le.refl _, rfl, rfl, rfl, rfl, rfl, rfl, hD0, Fit.new, LsAt.nil _ _, fun i => .inl ⟨rfl, rfl⟩, fun i hi hi0 => rfl, by decide⟩ ?_
 rintro n ρ' I2 L' ⟨k, D, d, cnt, kv, at_, f, rfl, hk, hI2, r5, r6, r20, r21, r22, rfl, hD, hF, hkv, hat, hag, hsg⟩
 refine ju5 r22 r21 r20 r6 r5 ?_
 have hN2 := hN.mono hI2
 by_cases hkn : k < l.length
 ·obtain ⟨bq, off, cap, cs, he, ⟨e, t, u, dd, q, rfl, hc⟩, hA⟩ := (hv0.mono hI2).get k hkn
  cases he
  have hsm := hs _ (List.getElem_mem hkn)
  generalize l[k] = c at *
  have hse := small_segs hsm
  have hnn := segsOf_nonneg c.ents
  have hle : c.ents.length ≤ 100000 := by have := hsm.1; omega
  have hc0 := hc
  obtain ⟨x0, y0, x1, y1, x2, y2, x3, y3, x4, y4, rfl, rfl, rfl, rfl, rfl⟩ := hc.sl
  obtain ⟨m1, m2, m3⟩ := mdo_apply (c := c) hD.abs hF.inv hD.dom hag (by omega) hsm
  refine jS (jy rfl rfl (jM (jB (jF (jV (jA (jB (WC.block (jS (jm (jZ rfl rfl) (jm (Val.loadI rfl (by assumption) rfl) ?_)))))))))))
  refine WL.alloc rfl (fun _ => ?_)
  refine jW ?_
  refine WL.stA 10 rfl rfl rfl rfl ?_
  refine jN (jd rfl (jm (jt 10 rfl rfl rfl) ?_))
  rename_i g8
  refine WL.callP [1, 1] rfl rfl (mDo D.A d.top hD.abs kv at_ f g mb cnt c _ _ _ _ _ _ hN2 hkv hat hc0 hle) rfl ?_
  rintro _ I3 _ hI3 ⟨kv', f', cnt', rfl, rfl, hkv', hat'⟩
  rw [m1] at hkv' ⊢
  rw [m2]
  generalize (mdo d.top at_ c).2.1 = at2 at hat' m3
  refine jW ?_
  refine jf rfl (jN (jd rfl (jm (jt 8 rfl rfl rfl) (WL.callP [1, 1, 1, 1, 1, 1, 1] rfl rfl (dApply D d c _ _ _ _ _ _ (hN2.mono hI3) (hD.mono hI3) (hc0.mono hI3) hle hF.inv.nonneg (by omega)) rfl ?_))))
  rintro _ I4 _ hI4 ⟨D', bcs, rfl, ⟨e', t', u', d', q', rfl, hbk⟩, hb, rfl, hD'⟩
  obtain ⟨_, _, _, _, _, _, _, _, _, _, rfl, rfl, rfl, rfl, rfl⟩ := hbk.sl
  have hF' := hF.apply (c := c) hD.abs hD.dom hD'.abs
  have hsg' := apply_segs (d := d) hsm
  rw [← hb]
  refine jW ?_
  refine je rfl (jm (Val.extractA rfl rfl) (jm (jq rfl rfl) (WL.alloc rfl (fun _ => ?_))))
  refine jW ?_
  refine WL.stA 11 rfl rfl rfl rfl ?_
  refine jf rfl (jN (ja rfl (ja rfl (jz rfl rfl (jb rfl (jG (jd rfl (jG (jd rfl (jG ?_))))))))))
  rename_i g10
  refine WL.callR [2, 2, 2, 2, 2, 2, 2, 2, 2] rfl rfl rfl (mIs D' (d.apply c).1 _ hD' hF'.inv kv' at2 f' g mb cnt' (hkv'.mono hI4) (hat'.mono hI4) m3) rfl ?_
  rintro _ I5 hI5 rfl
  exact jG (jl rfl (jk rfl (jM (jE (jV (WX.inNormal (jA (jD (jX rfl rfl (ja rfl (jC (WX.conv (fun w h => h.sub [0, 1, 1, 1, 1, 1, 1, 1, 1, 1] rfl) (WX.thenK (WK.round (l.length - (k + 1)) (by omega) ⟨k + 1, D', (d.apply c).1, cnt', kv', at2, f', rfl, by omega, hI2.trans (hI3.trans (hI4.trans hI5)), rfl, rfl, rfl, rfl, rfl, rfl, hD'.mono hI5, hF', hkv'.mono (hI4.trans hI5), hat'.mono (hI4.trans hI5), m3, by omega⟩))))))))))))))
 ·have hkl : k = l.length := by omega
  subst hkl
  refine jS (jx rfl rfl (jM (jB (jE (WC.exit (WX.thenExit (WX.thenExit (WX.inHit (jK (jd rfl (jd rfl (ji rfl (ji rfl (jg rfl (jM (jR ?_))))))))))))))))
  have hJ := hI2
  exact jP [0, 0, 0, 0, 0, 0, 0, 0, 0] (jr3 rfl (ResIs.tmpP rfl) (ResIs.tmpP rfl) (jtB rfl)) ⟨D, d, g, mb, cnt, kv, at_, f, rfl, rfl, hD, hF, hkv, hat, hag, hsg⟩
instance : ClK Tryz.prog 120 := ⟨_, rfl, by kernel_rfl, by kernel_rfl, by kernel_rfl, by kernel_rfl⟩
theorem mClone (b n : Nat) (f : Int → Option Value) (I : Mem) : Ctr Tryz.prog 76 [.map (some b)] I [mp b f n] (fun v I' L' => I' = I ∧ ∃ b', v = .map (some b') ∧ L' = [mp b f n, mp b' f n]) := by
 refine Ctr.intro Tryz.func76 rfl rfl rfl fun E F => ?_
 refine jS (WL.val Val.assign rfl ?_)
 refine jM (jB (jS (WL.val Val.move rfl ?_)))
 refine jm (Val.mapNil rfl) ?_
 refine jM (jE (jV (jK (WL.val Val.move rfl ?_))))
 refine jm (Val.mapIface rfl) ?_
 refine WL.cloneMap 1 rfl rfl rfl rfl fun b' => ?_
 refine jW ?_
 refine jm (Val.mapAssert rfl) ?_
 refine WL.val Val.assign rfl ?_
 refine jM (jR ?_)
 exact jP [0, 0] (jr1 rfl (ResIs.tmp rfl)) ⟨rfl, b', rfl, rfl⟩
theorem dCopy (D : Dm) (d : Dr) (I : Mem) (hD : DAbs I D d) : Ctr Tryz.prog 26 [ptr D.b] I D.hp (fun v I' L' => I' = I ∧ ∃ D2 : Dm, v = ptr D2.b ∧ L' = D.hp ++ D2.hp ∧ DAbs I D2 d) := by
 refine Ctr.intro Tryz.func26 rfl rfl rfl fun E F => ?_
 refine jS (ji rfl (jM (jB (j8 999 [1] rfl (jT 0 rfl (Val.moveP rfl) (jT 1 rfl (jr rfl) (jT 2 rfl (jn rfl) (jT 3 rfl (jp 0 rfl rfl rfl) (jT 5 rfl (Val.moveP rfl) (jT 6 rfl (jr rfl) (jT 7 rfl (jn rfl) (jT 8 rfl (jp 0 rfl rfl rfl) (jT 10 rfl (Val.moveP rfl) (jT 11 rfl (jr rfl) (jT 12 rfl (jn rfl) (jT 13 rfl (jp 0 rfl rfl rfl) (j5 4 rfl (WL.callP [3, 3, 3, 3, 3] rfl rfl (tCopy D.A d.top hD.abs _) rfl ?_))))))))))))))))))
 rintro _ I1 _ _ ⟨rfl, C, hC, rfl, rfl⟩
 change WL _ _ _ _ _ (_ ++ [_, _, _, _, _, _, _, _, _, _]) _
 refine jW ?_
 refine jC (j7 [1] rfl (j5 9 rfl (WL.callP [2] rfl rfl (mClone D.mb D.cnt D.f _) rfl ?_)))
 rintro _ I2 _ _ ⟨rfl, mb2, rfl, rfl⟩
 refine jW ?_
 refine jC (j7 [1] rfl (j5 14 rfl (jm (Val.build (cs := [ptr C.b, .map (some mb2), vi D.segs]) rfl) ?_)))
 refine jC (j7 [1] rfl (j5 15 rfl (WL.boxA rfl rfl (fun _ => ?_))))
 rename_i g
 refine jW ?_
 refine jC (j7 [1] rfl (jT 16 rfl (Val.assignP rfl) (j6 (jA (jR ?_)))))
 exact jP [0, 10, 0, 0, 0, 0, 0, 6, 5, 0, 0, 0, 0, 0] (jr1 rfl (ResIs.tmpP rfl)) ⟨rfl, { b := g, A := C, mb := mb2, f := D.f, cnt := D.cnt, segs := D.segs }, rfl, rfl, ⟨hC.abs hD.abs, hD.rep, hD.segs, hD.dom, hD.lim⟩⟩
theorem dTree (D : Dm) (d : Dr) (I : Mem) (hD : DAbs I D d) : Ctr Tryz.prog 27 [ptr D.b] I D.hp (fun v I' L' => I' = I ∧ ∃ C : Ar, v = ptr C.b ∧ L' = D.hp ++ C.hp ∧ Abs C d.top) := by
 refine Ctr.intro Tryz.func27 rfl rfl rfl fun E F => ?_
 refine jS (ji rfl (jN (jd rfl (jm (jr rfl) (jm (jn rfl) (jm (jp 1 rfl rfl rfl) (WL.callP [3, 3, 3, 3, 3] rfl rfl (tCopy D.A d.top hD.abs _) rfl ?_)))))))
 rintro _ I1 _ _ ⟨rfl, C, hC, rfl, rfl⟩
 change WL _ _ _ _ _ (_ ++ [_, _, _, _, _, _, _, _, _, _]) _
 refine jW ?_
 refine ji rfl (jM (jR ?_))
 exact jP [0, 0, 0, 0, 0, 0, 0, 0, 0, 0, 0, 0] (jr1 rfl (ResIs.tmpP rfl)) ⟨rfl, C, rfl, rfl, hC.abs hD.abs⟩
end Go.Proofs.YtggcpoleklcmkaaGreatDoor
