/-
 Drawings, the walks: attributes behind a command.
-/
import Derived.Test.YtggcpoleklcmkaaGreatDoorX2
import Derived.Test.YtggcpoleklcmkaaGreatDoorX12
import Derived.Test.YtggcpoleklcmkaaGreatDoorX3
import Derived.Test.YtggcpoleklcmkaaGreatDoorX11
set_option linter.unusedVariables false
set_option linter.unusedSimpArgs false
set_option maxRecDepth 100000
set_option maxHeartbeats 8000000
namespace Go.Dc
open Go.Sl Go.Ls
theorem del_at {l : List Sg} {i : Int} (h : (pathDelete l i).2 = 0) : atSeg l i = 0 := by
 rw [pathDelete] at h
 split at h
 ·exact h
 ·rename_i h1; exact Decidable.of_not_not h1
theorem put_at {l : List Sg} {i k : Int} {p : Pt} (h : (pathPut l i k p).2 = 0) : atSeg l i = 0 ∧ 0 ≤ k ∧ k < 3 := by
 rw [pathPut] at h
 split at h
 ·rename_i h1; exact absurd h h1
 ·rename_i h1
  split at h
  ·exact absurd h (by show ¬ (30 : Int) = 0; decide)
  ·have := need_le (sgAt l i).kind
   exact ⟨Decidable.of_not_not h1, by omega, by omega⟩
theorem point_ok {x : Sg} (h : x.ok) (k : Nat) : (x.point k).ok := by
 rw [Sg.point]
 split
 ·exact h.2.1
 ·split
  ·exact h.2.2.1
  ·exact h.2.2.2
theorem at_elem {I : Mem} {l : List Sg} {a : Option Addr} {n cap : Nat} {i : Int} (hv : LsAt Sg.rep I l (.slice a n cap)) (h : atSeg l i = 0) :
  0 ≤ i ∧ i < l.length ∧ ∃ b off x, a = some ⟨b, off, none⟩ ∧ sgAt l i = x ∧ x.ok ∧ At I b (off + i.toNat * 7) x.cs ∧ ∀ k < 3, At I b (off + i.toNat * 7 + 1 + k * 2) (x.point k).cs := by
 obtain ⟨_, h0, h1, _⟩ := atSeg_ok h
 obtain ⟨j, rfl⟩ : ∃ j : Nat, i = j := ⟨i.toNat, by omega⟩
 have hj : j < l.length := by omega
 obtain ⟨b, off, cap, cs, he, ⟨rfl, hx⟩, hA⟩ := hv.get j hj
 injection he with h2
 subst h2
 refine ⟨h0, h1, b, off, _, rfl, sgAt_nat hj, hx, hA, fun k hk => ?_⟩
 rw [← point_at _ k hk, Nat.add_assoc]
 exact At.sub _ hA rfl
end Go.Dc
namespace Go.Proofs.YtggcpoleklcmkaaGreatDoor
open Go.Sl Go.Ls Go.Tr Go.Dc
attribute [local irreducible] WC WL WX WK WA WAK Val Ctr RunRes ResIs Rd At sl box pt Exit.then Exit.inBlock bodyPost Code.wp wpList
def ChangeR (q : Atr × Cm × Int) : Value → Mem → Prop := fun r I' => ∃ acs bcs, r = .tuple #[.agg acs.toArray, .agg bcs.toArray, vi q.2.2] ∧ Atr.rep I' q.1 acs ∧ Cm.rep I' q.2.1 bcs
theorem change_ctr (a : Atr) (c : Cm) (t u d q e t' u' d' q' : Value) (I : Mem) (hN : NeedAt I) (ha : a.at_ I t u d q) (hl : a.lim) (hc : c.at_ I e t' u' d' q') (hk6 : 6 ≤ c.kind) (hk12 : c.kind ≤ 12) :
  Ctr Tryz.prog 117 [.agg (a.cs t u d q).toArray, .agg (c.cs e t' u' d' q').toArray] I [] (KeepR [] (ChangeR (change a c))) := by
 have hca := hc.atr
 obtain ⟨a1, c1, a2, c2, a3, c3, a4, c4, rfl, rfl, rfl, rfl⟩ := ha.sl
 obtain ⟨x0, y0, x1, y1, x2, y2, x3, y3, x4, y4, rfl, rfl, rfl, rfl, rfl⟩ := hc.sl
 refine Ctr.intro Tryz.func117 rfl rfl rfl fun E F => ?_
 refine jS (WL.boxA rfl rfl (fun _ => ?_))
 refine jW ?_
 refine WL.boxA rfl rfl (fun _ => ?_)
 refine jW ?_
 refine WL.alloc rfl (fun _ => ?_)
 refine jW ?_
 refine WL.alloc rfl (fun _ => ?_)
 refine jW ?_
 refine jf rfl (jM (jB ?_))
 rename_i g2 g3 g4 g5
 have hbx : ∀ X : List HP, X = X := fun _ => rfl
 refine WC.cutP (fun ρ' I' L' => I' = I ∧ ρ' 2 = ptr g2 ∧ ρ' 3 = ptr g3 ∧ ρ' 4 = ptr g4 ∧ ρ' 5 = ptr g5 ∧ ρ' 6 = vi 0 ∧ L' = [F, box g2 38 (a.cs (.slice a1 a.sty.fill.stops.length c1) (.slice a2 a.sty.pen.stops.length c2) (.slice a3 a.sty.dash.length c3) (.slice a4 a.path.length c4)), box g3 59 (c.cs (.slice x0 c.ents.length y0) (.slice x1 c.atr.sty.fill.stops.length y1) (.slice x2 c.atr.sty.pen.stops.length y2) (.slice x3 c.atr.sty.dash.length y3) (.slice x4 c.atr.path.length y4)), box g4 38 (a.cs (.slice a1 a.sty.fill.stops.length c1) (.slice a2 a.sty.pen.stops.length c2) (.slice a3 a.sty.dash.length c3) (.slice a4 a.path.length c4)), box g5 59 (Cm.cs { Cm.z with kind := c.kind } (.slice none 0 0) (.slice none 0 0) (.slice none 0 0) (.slice none 0 0) (.slice none 0 0))]) ?_ ?_
 ·skip
  refine j8 999 [1, 1] rfl (jT 0 rfl (jt 0 rfl rfl rfl) (jT 1 rfl (jn rfl) (jT 2 rfl (jp 1 rfl rfl rfl) (jT 3 rfl (Val.build (cs := Cm.cs { Cm.z with kind := c.kind } (.slice none 0 0) (.slice none 0 0) (.slice none 0 0) (.slice none 0 0) (.slice none 0 0)) rfl) ?_))))
  refine j5 4 rfl (WL.stA 3 rfl rfl rfl rfl ?_)
  refine jC (j7 [1, 1] rfl (j5 5 rfl (WL.stA 4 rfl rfl rfl rfl ?_)))
  refine jC (j7 [1, 1] rfl (j6 ?_))
  refine WX.thenK (WK.meet ?_)
  exact ⟨rfl, rfl, rfl, rfl, rfl, rfl, rfl⟩
 rintro ρ' I' L' ⟨rfl, r2, r3, r4, r5, r6, rfl⟩
 refine ju5 r6 r5 r4 r3 r2 ?_
 have hN5 : ∀ k : Int, 6 ≤ k → k ≤ 12 → I64 k := fun k h1 h2 => ⟨by show (-9223372036854775808 : Int) ≤ _; omega, by show _ ≤ (9223372036854775807 : Int); omega⟩
 refine WC.cut (fun ρ2 I2 L2 => ∃ acs bcs, I'.le I2 ∧ ρ2 4 = ptr g4 ∧ ρ2 5 = ptr g5 ∧ ρ2 6 = vi (change a c).2.2 ∧ L2 = [F, box g2 38 (a.cs (.slice a1 a.sty.fill.stops.length c1) (.slice a2 a.sty.pen.stops.length c2) (.slice a3 a.sty.dash.length c3) (.slice a4 a.path.length c4)), box g3 59 (c.cs (.slice x0 c.ents.length y0) (.slice x1 c.atr.sty.fill.stops.length y1) (.slice x2 c.atr.sty.pen.stops.length y2) (.slice x3 c.atr.sty.dash.length y3) (.slice x4 c.atr.path.length y4)), box g4 38 acs, box g5 59 bcs] ∧ Atr.rep I2 (change a c).1 acs ∧ Cm.rep I2 (change a c).2.1 bcs) ?_ ?_
 ·have hk : c.kind = 6 ∨ c.kind = 7 ∨ c.kind = 8 ∨ c.kind = 9 ∨ c.kind = 10 ∨ c.kind = 11 ∨ c.kind = 12 := by omega
  rcases hk with hk | hk | hk | hk | hk | hk | hk
  ·rw [show change a c = ({ a with mtx := c.atr.mtx }, { Cm.z with kind := c.kind, atr := { Atr.z with mtx := a.mtx } }, if c.atr.mtx.right then 0 else 10) by rw [change, if_pos hk, hk]]
   refine jS (jm (jn rfl) (jm (jp 2 rfl rfl rfl) (jM (WC.block (jS (jw rfl rfl (jg rfl (jM (jF (jB (j8 999 [1, 1] rfl (jT 0 rfl (jn rfl) (jT 1 rfl (jn rfl) (jT 2 rfl (jt 1 rfl rfl rfl) (jT 3 rfl (jn rfl) (jT 4 rfl (jt 0 rfl rfl rfl) (jT 5 rfl (jn rfl) (j5 6 rfl (WL.stA 3 rfl rfl rfl rfl ?_)))))))))))))))))))
   refine jC (j7 [1, 1] rfl (j5 7 rfl (jm (jn rfl) (jC (j7 [1, 1] rfl (j5 8 rfl (jm (jn rfl) (jC (j7 [1, 1] rfl (j5 9 rfl (WL.stA 4 rfl rfl rfl rfl ?_)))))))))))
   refine jC (j7 [1, 1] rfl (j6 (jK (jm (jn rfl) (jm (jt 3 rfl rfl rfl) ?_)))))
   refine WL.callE rfl rfl (mtxRight_ctr c.atr.mtx _) rfl (fun h1 => ?_) (fun h1 => ?_)
   ·skip
    refine jl rfl (jM (jE (jV (WX.inNormal ?_))))
    refine WX.thenK (WK.meet ?_)
    exact ⟨_, _, Mem.le.refl _, rfl, rfl, by rw [if_pos h1]; rfl, rfl, ⟨_, _, _, _, rfl, hca.mtx, ha.sty, ha.path⟩, ⟨_, _, _, _, _, rfl, hc.kind, i64z, i64z, i64z, i64z, i64z, i64z, LsAt.nil _ _, ⟨ha.mtx, Sty.z_at _, LsAt.nil _ _⟩, Sg.z_ok, Pt.z_ok⟩⟩
   ·skip
    refine jl rfl (jM (jF (jD (jf rfl (jC (WX.inNormal ?_))))))
    refine WX.thenK (WK.meet ?_)
    exact ⟨_, _, Mem.le.refl _, rfl, rfl, by rw [if_neg h1]; rfl, rfl, ⟨_, _, _, _, rfl, hca.mtx, ha.sty, ha.path⟩, ⟨_, _, _, _, _, rfl, hc.kind, i64z, i64z, i64z, i64z, i64z, i64z, LsAt.nil _ _, ⟨ha.mtx, Sty.z_at _, LsAt.nil _ _⟩, Sg.z_ok, Pt.z_ok⟩⟩
  ·rw [show change a c = ({ a with sty := c.atr.sty }, { Cm.z with kind := c.kind, atr := { Atr.z with sty := a.sty } }, c.atr.sty.check) by rw [change, if_neg (by omega), if_pos hk, hk]]
   refine jS (jm (jn rfl) (jm (jp 2 rfl rfl rfl) (jM (WC.block (jCf rfl rfl (jS (jw rfl rfl (jg rfl (jM (jF (jB (j8 999 [1, 1] rfl (jT 0 rfl (jn rfl) (jT 1 rfl (jn rfl) (jT 2 rfl (jt 1 rfl rfl rfl) (jT 3 rfl (jt 0 rfl rfl rfl) (jT 6 rfl (jn rfl) (j5 4 rfl (WL.callP [] rfl rfl (copied_ctr a _ _ _ _ _ ha hl) rfl ?_)))))))))))))))))))
   rintro _ I3 _ hI3 ⟨rfl, t1, u1, d1, q1, rfl, ha1⟩
   refine jW ?_
   obtain ⟨m1, n1, m2, n2, m3, n3, m4, n4, rfl, rfl, rfl, rfl⟩ := ha1.sl
   refine jC (j9 [1, 1] (hI3) rfl (jT 5 rfl (Val.fieldA rfl rfl) ?_))
   refine j5 7 rfl (WL.stA 3 rfl rfl rfl rfl ?_)
   refine jC (j9 [1, 1] (hI3) rfl (j5 8 rfl (jm (jn rfl) (jC (j9 [1, 1] (hI3) rfl (j5 9 rfl (jm (jn rfl) (jC (j9 [1, 1] (hI3) rfl (j5 10 rfl (WL.store 4 rfl rfl rfl ?_)))))))))))
   refine jC (j9 [1, 1] (hI3) rfl (j6 (jA (jD (WL.nSet ?_)))))
   refine jm (jn rfl) (jm (jt 3 rfl rfl rfl) (WL.callS rfl rfl (sty_ctr c.atr.sty _ _ _ _ (hca.sty.mono hI3)) rfl ?_))
   rintro _ rfl
   refine jf rfl (jC (WX.inNormal ?_))
   refine WX.thenK (WK.meet ?_)
   exact ⟨_, _, hI3, rfl, rfl, rfl, rfl, ⟨_, _, _, _, rfl, ha.mtx, hca.sty.mono hI3, ha.path.mono hI3⟩, ⟨_, _, _, _, _, rfl, hc.kind, i64z, i64z, i64z, i64z, i64z, i64z, LsAt.nil _ _, ⟨Mtx.z_ok, ha1.sty, LsAt.nil _ _⟩, Sg.z_ok, Pt.z_ok⟩⟩
  ·rw [show change a c = ({ a with path := c.atr.path }, { Cm.z with kind := c.kind, atr := { Atr.z with path := a.path } }, pathCheck c.atr.path) by rw [change, if_neg (by omega), if_neg (by omega), if_pos hk, hk]]
   refine jS (jm (jn rfl) (jm (jp 2 rfl rfl rfl) (jM (WC.block (jCf rfl rfl (jCf rfl rfl (jS (jw rfl rfl (jg rfl (jM (jF (jB (j8 999 [1, 1] rfl (jT 0 rfl (jn rfl) (jT 1 rfl (jn rfl) (jT 2 rfl (jp 1 rfl rfl rfl) (jT 3 rfl (jt 0 rfl rfl rfl) (jT 6 rfl (jn rfl) (j5 4 rfl (WL.callP [] rfl rfl (copied_ctr a _ _ _ _ _ ha hl) rfl ?_))))))))))))))))))))
   rintro _ I3 _ hI3 ⟨rfl, t1, u1, d1, q1, rfl, ha1⟩
   refine jW ?_
   obtain ⟨m1, n1, m2, n2, m3, n3, m4, n4, rfl, rfl, rfl, rfl⟩ := ha1.sl
   refine jC (j9 [1, 1] (hI3) rfl (jT 5 rfl (Val.fieldS rfl rfl) ?_))
   refine j5 7 rfl (WL.stS 3 rfl rfl rfl rfl ?_)
   refine jC (j9 [1, 1] (hI3) rfl (j5 8 rfl (jm (jn rfl) (jC (j9 [1, 1] (hI3) rfl (j5 9 rfl (jm (jn rfl) (jC (j9 [1, 1] (hI3) rfl (j5 10 rfl (WL.stS 4 rfl rfl rfl rfl ?_)))))))))))
   refine jC (j9 [1, 1] (hI3) rfl (j6 (jA (jD (jm (jn rfl) (jm (jp 3 rfl rfl rfl) (WL.callS rfl rfl (path_ctr c.atr.path _ _ (hN.mono hI3) (hca.path.mono hI3)) rfl ?_)))))))
   rintro _ rfl
   refine jf rfl (jC (WX.inNormal ?_))
   refine WX.thenK (WK.meet ?_)
   exact ⟨_, _, hI3, rfl, rfl, rfl, rfl, ⟨_, _, _, _, rfl, ha.mtx, ha.sty.mono hI3, hca.path.mono hI3⟩, ⟨_, _, _, _, _, rfl, hc.kind, i64z, i64z, i64z, i64z, i64z, i64z, LsAt.nil _ _, ⟨Mtx.z_ok, Sty.z_at _, ha1.path⟩, Sg.z_ok, Pt.z_ok⟩⟩
  ·rw [show change a c = ({ a with path := (pathInsert a.path c.i c.seg).1 }, { Cm.z with kind := 10, i := c.i }, (pathInsert a.path c.i c.seg).2) by rw [change, if_neg (by omega), if_neg (by omega), if_neg (by omega), if_pos hk]]
   refine jS (jm (jn rfl) (jm (jp 2 rfl rfl rfl) (jM (WC.block (jCf rfl rfl (jCf rfl rfl (jCf rfl rfl (jS (jw rfl rfl (jg rfl (jM (jF (jB (j8 999 [2] rfl (jT 0 rfl (jn rfl) (jT 1 rfl (jp 0 rfl rfl rfl) (jT 2 rfl (jn rfl) (j5 3 rfl (WL.stI 4 rfl rfl rfl rfl ?_)))))))))))))))))))
   refine jC (j7 [2] rfl (j5 4 rfl (jm (jn rfl) (jC (j7 [2] rfl (j5 5 rfl (WL.stI 4 rfl rfl rfl rfl ?_)))))))
   refine jC (j7 [2] rfl (j6 (jA (jD (jm (jn rfl) (jm (jp 1 rfl rfl rfl) (jm (jn rfl) (jm (jp 2 rfl rfl rfl) (jm (jn rfl) (jm (jt 2 rfl rfl rfl) (WL.callR [] rfl rfl rfl (pInsert a.path c.i c.seg _ _ hN ha.path hc.seg) rfl ?_)))))))))))
   rintro _ I3 hI3 ⟨w, rfl, hw⟩
   obtain ⟨wa, wc, rfl⟩ := hw.sl
   refine je rfl (jm (Val.extractS rfl rfl) (jm (jq rfl rfl) (jm (jn rfl) (WL.stS 3 rfl rfl rfl rfl ?_))))
   refine jf rfl (jC (WX.inNormal ?_))
   refine WX.thenK (WK.meet ?_)
   exact ⟨_, _, hI3, rfl, rfl, rfl, rfl, ⟨_, _, _, _, rfl, ha.mtx, ha.sty.mono hI3, hw⟩, ⟨_, _, _, _, _, rfl, hN5 10 (by decide) (by decide), i64z, i64z, i64z, i64z, hc.i, i64z, LsAt.nil _ _, Atr.z_at _, Sg.z_ok, Pt.z_ok⟩⟩
  ·rw [show change a c = ({ a with path := (pathDelete a.path c.i).1 }, { Cm.z with kind := 9, i := c.i, seg := if (pathDelete a.path c.i).2 = 0 then sgAt a.path c.i else Sg.z }, (pathDelete a.path c.i).2) by rw [change, if_neg (by omega), if_neg (by omega), if_neg (by omega), if_neg (by omega), if_pos hk]]
   refine jS (jm (jn rfl) (jm (jp 2 rfl rfl rfl) (jM (WC.block (jCf rfl rfl (jCf rfl rfl (jCf rfl rfl (jCf rfl rfl (jS (jw rfl rfl (jg rfl (jM (jF (jB (j8 999 [2] rfl (jT 0 rfl (jn rfl) (jT 1 rfl (jp 0 rfl rfl rfl) (jT 2 rfl (jn rfl) (j5 3 rfl (WL.stI 4 rfl rfl rfl rfl ?_))))))))))))))))))))
   refine jC (j7 [2] rfl (j5 4 rfl (jm (jn rfl) (jC (j7 [2] rfl (j5 5 rfl (WL.stI 4 rfl rfl rfl rfl ?_)))))))
   refine jC (j7 [2] rfl (j6 (jK (jm (jn rfl) (jm (jp 1 rfl rfl rfl) (jm (jn rfl) (jm (jp 2 rfl rfl rfl) (WL.callR [] rfl rfl rfl (pDelete a.path c.i _ _ hN ha.path) rfl ?_))))))))
   rintro _ I3 hI3 ⟨w, rfl, hw⟩
   obtain ⟨wa, wc, rfl⟩ := hw.sl
   by_cases h0 : (pathDelete a.path c.i).2 = 0
   ·rw [if_pos h0]
    obtain ⟨j0, j1, b, off, x, rfl, hsx, hxo, hA, _⟩ := at_elem ha.path (del_at h0)
    rw [hsx]
    have hA := hA.mono hI3
    refine je rfl (jm (Val.extractS rfl rfl) (jm (jq rfl rfl) (jm (jn rfl) (WL.stS 3 rfl rfl rfl rfl ?_))))
    refine jf rfl (jN (ja rfl (jw rfl rfl (jM (jF (jD (jm (jn rfl) (jm (jp 1 rfl rfl rfl) (jm (jn rfl) (jm (jp 2 rfl rfl rfl) (jm (jZ rfl rfl) (jm (Val.loadI rfl (by assumption) rfl) ?_))))))))))))
    refine jm (jn rfl) (WL.stA 4 rfl rfl rfl rfl ?_)
    refine jC (WX.inNormal ?_)
    refine WX.thenK (WK.meet ?_)
    exact ⟨_, _, hI3, rfl, rfl, rfl, rfl, ⟨_, _, _, _, rfl, ha.mtx, ha.sty.mono hI3, hw⟩, ⟨_, _, _, _, _, rfl, hN5 9 (by decide) (by decide), i64z, i64z, i64z, i64z, hc.i, i64z, LsAt.nil _ _, Atr.z_at _, hxo, Pt.z_ok⟩⟩
   ·rw [if_neg h0]
    refine je rfl (jm (Val.extractS rfl rfl) (jm (jq rfl rfl) (jm (jn rfl) (WL.stS 3 rfl rfl rfl rfl ?_))))
    refine jf rfl (jN (ja rfl (jv rfl rfl (jM (jE (jV (WX.inNormal ?_)))))))
    refine WX.thenK (WK.meet ?_)
    exact ⟨_, _, hI3, rfl, rfl, rfl, rfl, ⟨_, _, _, _, rfl, ha.mtx, ha.sty.mono hI3, hw⟩, ⟨_, _, _, _, _, rfl, hN5 9 (by decide) (by decide), i64z, i64z, i64z, i64z, hc.i, i64z, LsAt.nil _ _, Atr.z_at _, Sg.z_ok, Pt.z_ok⟩⟩
  ·rw [show change a c = ({ a with path := (pathPut a.path c.i c.k c.point).1 }, { Cm.z with kind := c.kind, i := c.i, k := c.k, point := if (pathPut a.path c.i c.k c.point).2 = 0 then (sgAt a.path c.i).point c.k.toNat else Pt.z }, (pathPut a.path c.i c.k c.point).2) by rw [change, if_neg (by omega), if_neg (by omega), if_neg (by omega), if_neg (by omega), if_neg (by omega), if_pos hk, hk]]
   refine jS (jm (jn rfl) (jm (jp 2 rfl rfl rfl) (jM (WC.block (jCf rfl rfl (jCf rfl rfl (jCf rfl rfl (jCf rfl rfl (jCf rfl rfl (jS (jw rfl rfl (jg rfl (jM (jF (jB (j8 999 [2] rfl (jT 0 rfl (jn rfl) (jT 1 rfl (jp 0 rfl rfl rfl) (jT 2 rfl (jn rfl) (jT 3 rfl (jp 0 rfl rfl rfl) (jT 4 rfl (jn rfl) (j5 5 rfl (WL.stI 4 rfl rfl rfl rfl ?_)))))))))))))))))))))))
   refine jC (j7 [2] rfl (j5 6 rfl (jm (jn rfl) (jC (j7 [2] rfl (j5 7 rfl (WL.stI 4 rfl rfl rfl rfl ?_)))))))
   refine jC (j7 [2] rfl (j6 (jK (jm (jn rfl) (jm (jp 1 rfl rfl rfl) (jm (jn rfl) (jm (jp 2 rfl rfl rfl) (jm (jn rfl) (jm (jp 2 rfl rfl rfl) (jm (jn rfl) (jm (jt 2 rfl rfl rfl) (WL.callR [] rfl rfl rfl (pPut a.path c.i c.k c.point _ _ hN ha.path hc.point) rfl ?_))))))))))))
   rintro _ I3 hI3 ⟨w, rfl, hw⟩
   obtain ⟨wa, wc, rfl⟩ := hw.sl
   by_cases h0 : (pathPut a.path c.i c.k c.point).2 = 0
   ·rw [if_pos h0]
    obtain ⟨hat, hk0, hk3⟩ := put_at h0
    obtain ⟨j0, j1, b, off, x, rfl, hsx, hxo, _, hP⟩ := at_elem ha.path hat
    rw [hsx]
    have hA := (hP c.k.toNat (by omega)).mono hI3
    refine je rfl (jm (Val.extractS rfl rfl) (jm (jq rfl rfl) (jm (jn rfl) (WL.stS 3 rfl rfl rfl rfl ?_))))
    refine jf rfl (jN (ja rfl (jw rfl rfl (jM (jF (j8 999 [1, 1] rfl (jT 0 rfl (jn rfl) (jT 1 rfl (jp 0 rfl rfl rfl) (jT 2 rfl (jn rfl) (jT 3 rfl (jp 1 rfl rfl rfl) (jT 4 rfl (jn rfl) (jT 5 rfl (jp 1 rfl rfl rfl) (jT 6 rfl (jZ rfl rfl) (jT 7 rfl (jn rfl) (jT 8 rfl (Val.indexAddrA rfl rfl (by omega) (by omega)) ?_)))))))))))))))
    refine jT 9 rfl (Val.loadI rfl hA rfl) ?_
    refine j5 10 rfl (jm (jn rfl) (jC (j7 [1, 1] rfl (j5 11 rfl (WL.stA 4 rfl rfl rfl rfl ?_)))))
    refine jC (j7 [1, 1] rfl (j6 (WX.inNormal ?_)))
    refine WX.thenK (WK.meet ?_)
    exact ⟨_, _, hI3, rfl, rfl, rfl, rfl, ⟨_, _, _, _, rfl, ha.mtx, ha.sty.mono hI3, hw⟩, ⟨_, _, _, _, _, rfl, hc.kind, i64z, i64z, i64z, i64z, hc.i, hc.k, LsAt.nil _ _, Atr.z_at _, Sg.z_ok, point_ok hxo _⟩⟩
   ·rw [if_neg h0]
    refine je rfl (jm (Val.extractS rfl rfl) (jm (jq rfl rfl) (jm (jn rfl) (WL.stS 3 rfl rfl rfl rfl ?_))))
    refine jf rfl (jN (ja rfl (jv rfl rfl (jM (jE (jV (WX.inNormal ?_)))))))
    refine WX.thenK (WK.meet ?_)
    exact ⟨_, _, hI3, rfl, rfl, rfl, rfl, ⟨_, _, _, _, rfl, ha.mtx, ha.sty.mono hI3, hw⟩, ⟨_, _, _, _, _, rfl, hc.kind, i64z, i64z, i64z, i64z, hc.i, hc.k, LsAt.nil _ _, Atr.z_at _, Sg.z_ok, Pt.z_ok⟩⟩
  ·rw [show change a c = ({ a with path := (pathSplit a.path c.i).1 }, { Cm.z with kind := 8, atr := { Atr.z with path := a.path } }, (pathSplit a.path c.i).2) by rw [change, if_neg (by omega), if_neg (by omega), if_neg (by omega), if_neg (by omega), if_neg (by omega), if_neg (by omega)]]
   refine jS (jm (jn rfl) (jm (jp 2 rfl rfl rfl) (jM (WC.block (jCf rfl rfl (jCf rfl rfl (jCf rfl rfl (jCf rfl rfl (jCf rfl rfl (jCf rfl rfl (jS (jw rfl rfl (jg rfl (jM (jF (jS (jm (jt 1 rfl rfl rfl) (WL.callR [] rfl rfl rfl (copied_ctr a _ _ _ _ _ ha hl) rfl ?_))))))))))))))))))
   rintro _ I3 hI3 ⟨t1, u1, d1, q1, rfl, ha1⟩
   obtain ⟨m1, n1, m2, n2, m3, n3, m4, n4, rfl, rfl, rfl, rfl⟩ := ha1.sl
   refine jm (Val.fieldS rfl rfl) ?_
   refine jm (jn rfl) (WL.stI 4 rfl rfl rfl rfl ?_)
   refine jm (jn rfl) (jm (jn rfl) (WL.stS 4 rfl rfl rfl rfl ?_))
   refine jM (jD (jm (jn rfl) (jm (jp 1 rfl rfl rfl) (jm (jn rfl) (jm (jp 2 rfl rfl rfl) (WL.callR [] rfl rfl rfl (pSplit a.path c.i _ _ (hN.mono hI3) (ha.path.mono hI3)) rfl ?_))))))
   rintro _ I4 hI4 ⟨w, rfl, hw⟩
   obtain ⟨wa, wc, rfl⟩ := hw.sl
   refine je rfl (jm (Val.extractS rfl rfl) (jm (jq rfl rfl) (jm (jn rfl) (WL.stS 3 rfl rfl rfl rfl ?_))))
   refine jf rfl (jC (WX.inNormal ?_))
   refine WX.thenK (WK.meet ?_)
   exact ⟨_, _, hI3.trans hI4, rfl, rfl, rfl, rfl, ⟨_, _, _, _, rfl, ha.mtx, ha.sty.mono (hI3.trans hI4), hw⟩, ⟨_, _, _, _, _, rfl, hN5 8 (by decide) (by decide), i64z, i64z, i64z, i64z, i64z, i64z, LsAt.nil _ _, ⟨Mtx.z_ok, Sty.z_at _, ha1.path.mono hI4⟩, Sg.z_ok, Pt.z_ok⟩⟩
 rintro ρ2 I2 L2 ⟨acs, bcs, hI2, r4, r5, r6, rfl, ⟨t1, u1, d1, q1, rfl, hA⟩, ⟨e2, t2, u2, d2, q2, rfl, hB⟩⟩
 refine ju3 r6 r5 r4 ?_
 generalize change a c = ch at *
 obtain ⟨m1, n1, m2, n2, m3, n3, m4, n4, rfl, rfl, rfl, rfl⟩ := hA.sl
 obtain ⟨p0, o0, p1, o1, p2, o2, p3, o3, p4, o4, rfl, rfl, rfl, rfl, rfl⟩ := hB.sl
 refine jB (j8 999 [3, 3] rfl (jT 0 rfl (jt 0 rfl rfl rfl) (jT 1 rfl (jt 1 rfl rfl rfl) (jT 2 rfl (Val.moveI rfl) (j5 3 rfl (WL.stA 3 rfl rfl rfl rfl ?_))))))
 refine jC (j7 [3, 3] rfl (j5 4 rfl (WL.stA 4 rfl rfl rfl rfl ?_)))
 refine jC (j7 [3, 3] rfl (jT 5 rfl (Val.assignI rfl) (j6 (jA (jR ?_)))))
 exact jP [] (jr3 rfl (jcL 3 rfl rfl rfl) (jcL 4 rfl rfl rfl) (jtI rfl)) ⟨rfl, _, _, rfl, ⟨_, _, _, _, rfl, hA⟩, ⟨_, _, _, _, _, rfl, hB⟩⟩
end Go.Proofs.YtggcpoleklcmkaaGreatDoor

namespace Go.Sl
open Go.Ls
theorem Val.lookup2v {Γ : Cx} {ρ : Nat → Value} {I : Mem} {L : List HP} {ty t b n : Nat} {x y : Operand} {i : Int} {z v : Value} {q : Bool} {f : Int → Option Value} (k : Nat) [hk : MapK Γ.P t z] (hv : (f i).getD z = v) (hq : (f i).isSome = q) (hx : ev ρ x = .map (some b)) (hy : ev ρ y = vi i) (hL : L[k]? = some (mp b f n)) :
  Val Γ ρ I L (.lookup t x y true) ty (.tuple #[v, .bool q]) := by
 subst hv; subst hq
 exact Val.lookup2 k hx hy hL
end Go.Sl
namespace Go.Dc
open Go.Sl Go.Ls Go.Tr
theorem AtRep.some {I : Mem} {at_ : Int → Option Atr} {f : Int → Option Value} (h : AtRep I at_ f) (i : Int) : (f i).isSome = (at_ i).isSome := by
 rcases h i with ⟨h1, h2⟩ | ⟨a, v, h1, h2, _⟩ <;> rw [h1, h2] <;> rfl
theorem Cm.at_.withId {I : Mem} {c : Cm} {e t u d q : Value} (h : c.at_ I e t u d q) {i : Int} (hi : I64 i) : Cm.at_ I { c with id := i } e t u d q := ⟨h.kind, hi, h.parent, h.index, h.count, h.i, h.k, h.ents, h.atr, h.seg, h.point⟩
theorem dom_up {at_ : Int → Option Atr} {P : Int → Prop} (h : ∀ i, (at_ i).isSome = true ↔ P i) {j : Int} {a b : Atr} (hj : at_ j = some a) : ∀ i, (upAt at_ j b i).isSome = true ↔ P i := fun i => by
 rw [← h i, upAt]
 split
 ·rename_i e
  rw [e, hj]; simp
 ·exact Iff.rfl
theorem checked_len {l : List Sg} (h : (checked l).2 = 0) : (checked l).1.length ≤ 4096 := by
 rw [checked] at h ⊢
 split at h
 ·rename_i h1; exact absurd h h1
 ·rename_i h1
  rw [if_neg h1]
  exact pathCheck_lim (Decidable.of_not_not h1)
theorem insert_len {l : List Sg} {i : Int} {s : Sg} (h : (pathInsert l i s).2 = 0) : (pathInsert l i s).1.length ≤ 4096 := by
 rw [pathInsert] at h ⊢
 split at h
 ·rename_i h1; exact absurd h h1
 ·rename_i h1
  rw [if_neg h1]
  split at h
  ·exact absurd h (by show ¬ (30 : Int) = 0; decide)
  ·rename_i h2
   rw [if_neg h2]
   exact checked_len h
theorem delete_len {l : List Sg} {i : Int} (h : (pathDelete l i).2 = 0) : (pathDelete l i).1.length ≤ 4096 := by
 rw [pathDelete] at h ⊢
 split at h
 ·rename_i h1; exact absurd h h1
 ·rename_i h1
  rw [if_neg h1]
  exact checked_len h
theorem put_len {l : List Sg} {i k : Int} {p : Pt} (h : (pathPut l i k p).2 = 0) : (pathPut l i k p).1.length ≤ 4096 := by
 rw [pathPut] at h ⊢
 split at h
 ·rename_i h1; exact absurd h h1
 ·rename_i h1
  rw [if_neg h1]
  split at h
  ·exact absurd h (by show ¬ (30 : Int) = 0; decide)
  ·rename_i h2
   rw [if_neg h2]
   exact checked_len h
theorem split_len {l : List Sg} {i : Int} (h : (pathSplit l i).2 = 0) : (pathSplit l i).1.length ≤ 4096 := by
 rw [pathSplit] at h ⊢
 split at h
 ·rename_i h1; exact absurd h h1
 ·rename_i h1
  obtain ⟨_, h0, h2, h3⟩ := atSeg_ok (Decidable.of_not_not h1)
  rw [if_neg h1]
  split at h
  ·exact absurd h (by show ¬ (33 : Int) = 0; decide)
  ·rename_i h4
   rw [if_neg h4]
   split at h
   ·exact absurd h (by show ¬ (36 : Int) = 0; decide)
   ·rename_i h5
    rw [if_neg h5]
    show (l.take i.toNat ++ _ :: _ :: l.drop (i.toNat + 1)).length ≤ 4096
    simp only [List.length_append, List.length_cons, List.length_take, List.length_drop]
    omega
theorem change_lim {a : Atr} {c : Cm} (ha : a.lim) (h : (change a c).2.2 = 0) : (change a c).1.lim := by
 obtain ⟨h1, h2, h3, h4⟩ := ha
 rw [change] at h ⊢
 split at h
 ·rename_i k; rw [if_pos k]; exact ⟨h1, h2, h3, h4⟩
 rename_i k6
 rw [if_neg k6]
 split at h
 ·rename_i k; rw [if_pos k]
  obtain ⟨q1, q2, q3⟩ := Sty.check_lim (s := c.atr.sty) h
  exact ⟨h1, by show c.atr.sty.fill.stops.length ≤ _; omega, by show c.atr.sty.pen.stops.length ≤ _; omega, by show c.atr.sty.dash.length ≤ _; omega⟩
 rename_i k7
 rw [if_neg k7]
 split at h
 ·rename_i k; rw [if_pos k]
  have := pathCheck_lim (l := c.atr.path) h
  exact ⟨by show c.atr.path.length ≤ _; omega, h2, h3, h4⟩
 rename_i k8
 rw [if_neg k8]
 split at h
 ·rename_i k; rw [if_pos k]
  have := insert_len h
  exact ⟨by show (pathInsert a.path c.i c.seg).1.length ≤ _; omega, h2, h3, h4⟩
 rename_i k9
 rw [if_neg k9]
 split at h
 ·rename_i k; rw [if_pos k]
  have := delete_len h
  exact ⟨by show (pathDelete a.path c.i).1.length ≤ _; omega, h2, h3, h4⟩
 rename_i k10
 rw [if_neg k10]
 split at h
 ·rename_i k; rw [if_pos k]
  have := put_len h
  exact ⟨by show (pathPut a.path c.i c.k c.point).1.length ≤ _; omega, h2, h3, h4⟩
 rename_i k11
 rw [if_neg k11]
 have := split_len h
 exact ⟨by show (pathSplit a.path c.i).1.length ≤ _; omega, h2, h3, h4⟩
end Go.Dc
namespace Go.Proofs.YtggcpoleklcmkaaGreatDoor
open Go.Sl Go.Ls Go.Tr Go.Dc
attribute [local irreducible] WC WL WX WK WA WAK Val Ctr RunRes ResIs Rd At sl box pt Exit.then Exit.inBlock bodyPost Code.wp wpList
theorem dSet (D : Dm) (d : Dr) (c : Cm) (e t u dd q : Value) (I : Mem) (hN : NeedAt I) (hD : DAbs I D d) (hc : c.at_ I e t u dd q) (hk6 : 6 ≤ c.kind) (hk12 : c.kind ≤ 12) (hs0 : 0 ≤ d.segs) (hs1 : d.segs ≤ 1048576) :
  Ctr Tryz.prog 71 [ptr D.b, .agg (c.cs e t u dd q).toArray] I D.hp (ApplyR (d.set c) D) := by
 have hc0 := hc
 have hsg := hD.segs
 obtain ⟨x0, y0, x1, y1, x2, y2, x3, y3, x4, y4, rfl, rfl, rfl, rfl, rfl⟩ := hc.sl
 obtain ⟨ta, ua, da, qa, hv, haa⟩ := hD.rep.get c.id
 have hsm := hD.rep.some c.id
 have hla : ((d.at_ c.id).getD Atr.z).lim := by
  cases h : d.at_ c.id with
  | none => exact ⟨by decide, by decide, by decide, by decide⟩
  | some a => exact hD.lim _ _ h
 generalize hga : (d.at_ c.id).getD Atr.z = a at hv haa hla
 generalize hbb : (d.at_ c.id).isSome = bb at hsm
 have haa0 := haa
 obtain ⟨a1, c1, a2, c2, a3, c3, a4, c4, rfl, rfl, rfl, rfl⟩ := haa.sl
 refine Ctr.intro Tryz.func71 rfl rfl rfl fun E F => ?_
 refine jS (WL.boxA rfl rfl (fun _ => ?_))
 refine jW ?_
 refine WL.alloc rfl (fun _ => ?_)
 refine jW ?_
 refine jf rfl (jM (jB ?_))
 rename_i g3 g4
 refine j8 999 [1, 1, 6] rfl (jT 0 rfl (Val.moveP rfl) (jT 1 rfl (jr rfl) (jT 2 rfl (jn rfl) (jT 3 rfl (jp 0 rfl rfl rfl) (jT 4 rfl (jn rfl) (jT 5 rfl (jp 2 rfl rfl rfl) (jT 6 rfl (Val.lookup2v 1 hv hsm rfl rfl rfl) ?_)))))))
 refine jT 7 rfl (Val.moveT rfl) (jT 8 rfl (Val.extractA rfl rfl) (jT 9 rfl (Val.extractB rfl rfl) (j5 10 rfl (WL.alloc rfl (fun _ => ?_)))))
 rename_i g6
 refine jW ?_
 refine jC (j7 [1, 1, 6] rfl (j5 11 rfl (WL.stA 10 rfl rfl rfl rfl ?_)))
 refine jC (j7 [1, 1, 6] rfl (jT 12 rfl (Val.assignB rfl) (j6 ?_)))
 by_cases h0 : c.id = 0
 ·rw [show d.set c = (d, Cm.z, 30) by rw [Dr.set, if_pos h0]]
  refine jA (jB (WC.block (jS (jm (jn rfl) (jm (jp 8 rfl rfl rfl) (jw rfl rfl (jg rfl (jM (jF (jS (jm (Val.build0) ?_)))))))))))
  refine WL.stA 9 rfl rfl rfl rfl ?_
  refine jf rfl (jM (jR (WX.inRet (jU ?_))))
  exact jP [0, 0, 0, 0, 0, 0, 0] (jr2 rfl (jcL 9 rfl rfl rfl) (jtI rfl)) ⟨D, _, rfl, Cm.z_rep _, rfl, rfl, hD⟩
 cases bb with
 | false =>
  have hn : d.at_ c.id = none := by
   cases h : d.at_ c.id with
   | none => rfl
   | some a => rw [h] at hbb; cases hbb
  rw [show d.set c = (d, Cm.z, 31) by rw [Dr.set, if_neg h0, hn]]
  refine jA (jB (WC.block (jS (jm (jn rfl) (jm (jp 8 rfl rfl rfl) (jv rfl rfl (jg rfl (jM (jE (jS (jb rfl (jl rfl (jg rfl (jM (jF (jS (jm (Val.build0) ?_)))))))))))))))))
  refine WL.stA 9 rfl rfl rfl rfl ?_
  refine jf rfl (jM (jR (WX.inRet (jU ?_))))
  exact jP [0, 0, 0, 0, 0, 0, 0] (jr2 rfl (jcL 9 rfl rfl rfl) (jtI rfl)) ⟨D, _, rfl, Cm.z_rep _, rfl, rfl, hD⟩
 | true =>
  have hn : d.at_ c.id = some a := by
   cases h : d.at_ c.id with
   | none => rw [h] at hbb; cases hbb
   | some a' => rw [h] at hga; rw [← hga]; rfl
  have hset : d.set c = if 8 ≤ c.kind ∧ ((Nd.find c.id d.top).map Nd.grp).getD false = true then (d, Cm.z, 33)
   else if (change a c).2.2 ≠ 0 then (d, Cm.z, (change a c).2.2)
   else if mostSegs < d.segs + (change a c).1.path.length - a.path.length then (d, Cm.z, 36)
   else (⟨d.top, upAt d.at_ c.id (change a c).1, d.segs + (change a c).1.path.length - a.path.length⟩, { (change a c).2.1 with id := c.id }, 0) := by
   rw [Dr.set, if_neg h0, hn]
  rw [hset]
  clear hset
  refine jA (jB (WC.block (jS (jm (jn rfl) (jm (jp 8 rfl rfl rfl) (jv rfl rfl (jg rfl (jM (jE (jS (jb rfl (jl rfl (jg rfl (jM (jE (jB ?_))))))))))))))))
  refine WC.cutP (fun ρ' I' L' => I' = I ∧ ρ' 0 = ptr D.b ∧ ρ' 3 = ptr g3 ∧ ρ' 4 = ptr g4 ∧ ρ' 6 = ptr g6 ∧ ρ' 31 = .bool (decide (8 ≤ c.kind) && ((Nd.find c.id d.top).map Nd.grp).getD false) ∧ L' = F :: (D.hp ++ [box g3 59 (c.cs (.slice x0 c.ents.length y0) (.slice x1 c.atr.sty.fill.stops.length y1) (.slice x2 c.atr.sty.pen.stops.length y2) (.slice x3 c.atr.sty.dash.length y3) (.slice x4 c.atr.path.length y4)), box g4 59 (Cm.cs Cm.z (.slice none 0 0) (.slice none 0 0) (.slice none 0 0) (.slice none 0 0) (.slice none 0 0)), box g6 38 (a.cs (.slice a1 a.sty.fill.stops.length c1) (.slice a2 a.sty.pen.stops.length c2) (.slice a3 a.sty.dash.length c3) (.slice a4 a.path.length c4))])) ?_ ?_
  ·by_cases h8 : 8 ≤ c.kind
   ·rw [decide_eq_true h8, Bool.true_and]
    refine j8 999 [1, 7] rfl (jT 0 rfl (jn rfl) (jT 1 rfl (jp 1 rfl rfl rfl) (jT 2 rfl (Val.geq rfl rfl (decide_eq_true (by omega))) ?_)))
    refine jT 3 rfl (Val.moveB rfl) (jT 4 rfl (Val.moveP rfl) (jT 5 rfl (jr rfl) (jT 6 rfl (jn rfl) (jT 7 rfl (jp 0 rfl rfl rfl) (jT 8 rfl (jn rfl) (jT 9 rfl (jp 1 rfl rfl rfl) (j5 10 rfl (jG (WL.callK [3, 3, 3, 3, 3] rfl rfl rfl (aIsGroup D.A d.top hD.abs c.id _) rfl ?_)))))))))
    rintro _ rfl
    refine jC (j7 [1, 7] rfl (jT 11 rfl (Val.pick rfl) (jT 12 rfl (Val.assignB rfl) (j6 ?_))))
    refine WX.thenK (WK.meet ?_)
    exact ⟨rfl, rfl, rfl, rfl, rfl, rfl, rfl⟩
   ·rw [decide_eq_false h8, Bool.false_and]
    refine j8 999 [1, 7] rfl (jT 0 rfl (jn rfl) (jT 1 rfl (jp 1 rfl rfl rfl) (jT 2 rfl (Val.geq rfl rfl (decide_eq_false (by omega))) ?_)))
    refine jT 3 rfl (Val.moveB rfl) (jI 4 rfl (jI 5 rfl (jI 6 rfl (jI 7 rfl (jI 8 rfl (jI 9 rfl (jI 10 rfl (jT 11 rfl (Val.pick rfl) (jT 12 rfl (Val.assignB rfl) (j6 ?_))))))))))
    refine WX.thenK (WK.meet ?_)
    exact ⟨rfl, rfl, rfl, rfl, rfl, rfl, rfl⟩
  rintro ρ' I' L' ⟨rfl, r0, r3, r4, r6, r31, rfl⟩
  refine ju5 r31 r6 r4 r3 r0 ?_
  change WC _ _ _ _ [F, docBox D.b D.A.b D.mb D.segs, mp D.mb D.f D.cnt, _, _, _, _, _, _, _, _] _
  by_cases hgr : 8 ≤ c.kind ∧ ((Nd.find c.id d.top).map Nd.grp).getD false = true
  ·rw [if_pos hgr, hgr.2, decide_eq_true hgr.1, Bool.and_true]
   refine jF (jS (jm (Val.build0) ?_))
   refine WL.stA 9 rfl rfl rfl rfl ?_
   refine jf rfl (jM (jR (WX.inRet (jU ?_))))
   exact jP [0, 0, 0, 0, 0, 0, 0] (jr2 rfl (jcL 9 rfl rfl rfl) (jtI rfl)) ⟨D, _, rfl, Cm.z_rep _, rfl, rfl, hD⟩
  rw [if_neg hgr, show (decide (8 ≤ c.kind) && ((Nd.find c.id d.top).map Nd.grp).getD false) = false by
   rw [Bool.and_eq_false_iff]
   by_cases h8 : 8 ≤ c.kind
   ·exact .inr (by cases h : ((Nd.find c.id d.top).map Nd.grp).getD false with
     | false => rfl
     | true => exact absurd ⟨h8, h⟩ hgr)
   ·exact .inl (decide_eq_false h8)]
  refine jE (jV (WX.inNormal (jK (jm (jt 10 rfl rfl rfl) (jm (jt 8 rfl rfl rfl) (WL.callR [] rfl rfl rfl (change_ctr a c _ _ _ _ _ _ _ _ _ _ hN haa hla hc hk6 hk12) rfl ?_))))))
  rintro _ I3 hI3 ⟨_, _, rfl, ⟨t1, u1, d1, q1, rfl, hA⟩, ⟨e2, t2, u2, d2, q2, rfl, hB⟩⟩
  have hlim := change_lim (c := c) hla
  generalize change a c = ch at *
  have hA0 := hA
  have hB0 := hB
  obtain ⟨m1, n1, m2, n2, m3, n3, m4, n4, rfl, rfl, rfl, rfl⟩ := hA.sl
  obtain ⟨p0, o0, p1, o1, p2, o2, p3, o3, p4, o4, rfl, rfl, rfl, rfl, rfl⟩ := hB.sl
  by_cases he : ch.2.2 = 0
  case neg =>
   rw [if_pos he]
   refine je rfl (jm (Val.extractA rfl rfl) (jm (Val.extractA rfl rfl) (jm (jq rfl rfl) (WL.alloc rfl (fun _ => ?_)))))
   refine jW ?_
   refine WL.alloc rfl (fun _ => ?_)
   refine jW ?_
   refine WL.stA 11 rfl rfl rfl rfl ?_
   refine WL.stA 12 rfl rfl rfl rfl ?_
   refine jf rfl (jM (jB (jS (ja rfl (jJ rfl rfl (jM (jF (jS (jm (Val.build0) ?_)))))))))
   refine ja rfl (WL.stA 9 rfl rfl rfl rfl ?_)
   refine jf rfl (jM (jR (jU ?_)))
   exact jP [0, 0, 0, 0, 0, 0, 0] (jr2 rfl (jcL 9 rfl rfl rfl) (jtI rfl)) ⟨D, _, rfl, Cm.z_rep _, rfl, rfl, hD.mono hI3⟩
  rw [if_neg (fun e => e he)]
  obtain ⟨l1, l2, l3, l4⟩ := hla
  obtain ⟨b1, b2, b3, b4⟩ := hlim he
  refine je rfl (jm (Val.extractA rfl rfl) (jm (Val.extractA rfl rfl) (jm (jq rfl rfl) (WL.alloc rfl (fun _ => ?_)))))
  refine jW ?_
  refine WL.alloc rfl (fun _ => ?_)
  refine jW ?_
  refine WL.stA 11 rfl rfl rfl rfl ?_
  refine WL.stA 12 rfl rfl rfl rfl ?_
  refine jf rfl (jM (jB (jS (ja rfl (jz rfl rfl (jM (jE (jV (jA (jB ?_))))))))))
  rename_i g8 g9
  refine j8 999 [1, 9, 9] rfl (jT 0 rfl (Val.moveP rfl) (jT 1 rfl (jr rfl) (jT 2 rfl (jn rfl) (jT 3 rfl (jp 0 rfl rfl rfl) (jT 4 rfl (jn rfl) (jT 5 rfl (jp 2 rfl rfl rfl) (jT 6 rfl (jo rfl) (jT 7 rfl (Val.add rfl rfl (wrap_i64 (by omega) (by omega))) ?_))))))))
  refine jT 8 rfl (jn rfl) (jT 9 rfl (jp 1 rfl rfl rfl) (jT 10 rfl (jo rfl) (jT 11 rfl (Val.sub rfl rfl (wrap_i64 (by omega) (by omega))) ?_)))
  refine jT 12 rfl (Val.assignI rfl) (j6 ?_)
  rw [hsg]
  by_cases hm : mostSegs < d.segs + ch.1.path.length - a.path.length
  ·rw [if_pos hm]
   have hm2 : (1048576 : Int) < d.segs + ch.1.path.length - a.path.length := hm
   refine jA (jB (jS (ja rfl (jO rfl rfl (jM (jF (jS (jm (Val.build0) ?_))))))))
   refine WL.stA 9 rfl rfl rfl rfl ?_
   refine jf rfl (jM (jR (jU ?_)))
   exact jP [0, 0, 0, 0, 0, 0, 0] (jr2 rfl (jcL 9 rfl rfl rfl) (jtI rfl)) ⟨{ D with segs := d.segs }, _, rfl, Cm.z_rep _, rfl, rfl, ⟨hD.abs, hD.rep.mono hI3, rfl, hD.dom, hD.lim⟩⟩
  rw [if_neg hm]
  have hm2 : ¬ (1048576 : Int) < d.segs + ch.1.path.length - a.path.length := hm
  obtain ⟨w, hfv⟩ : ∃ w, D.f c.id = some w := Option.isSome_iff_exists.1 hsm
  refine jA (jB (jS (ja rfl (jL rfl rfl (jM (jE (jV (jK (jm (jn rfl) (jm (jp 8 rfl rfl rfl) (jm (jn rfl) (WL.stI 12 rfl rfl rfl rfl ?_))))))))))))
  refine jM (jB (j8 15 [1, 7, 9] rfl (jT 0 rfl (Val.moveP rfl) (jT 1 rfl (jr rfl) (jT 2 rfl (jn rfl) (jT 3 rfl (jp 0 rfl rfl rfl) (jT 4 rfl (jn rfl) (jT 5 rfl (jp 1 rfl rfl rfl) (jT 6 rfl (Val.moveP rfl) (jT 7 rfl (jt 2 rfl rfl rfl) (jT 9 rfl (Val.moveI rfl) (j5 8 rfl (WL.callR [] rfl rfl rfl (copied_ctr ch.1 _ _ _ _ _ hA0 (hlim he)) rfl ?_)))))))))))))
  rintro _ I4 hI4 ⟨t5, u5, d5, q5, rfl, h5⟩
  refine jC (j9 [1, 7, 9] (hI4) rfl (j5 10 rfl (WL.mapEntry 2 rfl rfl rfl hfv rfl fun aa cc jj ee z1 z2 z3 z4 => ?_)))
  refine WL.nSet ?_
  refine jC (j9 [1, 7, 9] (hI4) rfl (jT 11 rfl (jq rfl rfl) (j5 12 rfl (WL.entryStore 2 rfl rfl rfl z1 z2 z3 z4 ?_))))
  refine WL.nSet ?_
  refine jC (j9 [1, 7, 9] (hI4) rfl (j5 13 rfl (jm (jr rfl) (jC (j9 [1, 7, 9] (hI4) rfl (j5 14 rfl (jm (jn rfl) (jC (j9 [1, 7, 9] (hI4) rfl (j5 15 rfl (WL.stI 1 rfl rfl rfl rfl ?_)))))))))))
  refine jC (WK.anyLast (WA.done (by kernel_rfl) (jK (jm (jt 12 rfl rfl rfl) (WL.stA 9 rfl rfl rfl rfl ?_)))))
  refine jf rfl (jM (jR ?_))
  have hJ := hI3.trans hI4
  exact jP [0, 0, 0, 0, 0, 0, 0] (jr2 rfl (jcL 9 rfl rfl rfl) (jtI rfl)) ⟨{ D with f := Sl.put D.f c.id _, segs := _ }, _, rfl, ⟨_, _, _, _, _, rfl, (hB0.mono hI4).withId hc.id⟩, rfl, rfl, ⟨hD.abs, (hD.rep.mono hJ).up ⟨_, _, _, _, rfl, h5⟩ _, rfl, dom_up hD.dom hn, lim_up hD.lim (hlim he) _⟩⟩
end Go.Proofs.YtggcpoleklcmkaaGreatDoor

namespace Go.Tr
open Go.Sl Go.Ls
namespace Nd
theorem kids_lt (n : Nd) : Nd.sizes n.kids < n.size := by
 cases n with
 | mk i g ks => rw [Nd.size]; show Nd.sizes ks < 1 + Nd.sizes ks; omega
theorem move_rem {top : Nd} {i p ix : Int} (h : (Nd.move top i p ix).2 = 0) : (Nd.remove top i).2.2.2.2 = 0 := by
 rw [Nd.move] at h
 split at h
 ·rename_i h0; exact absurd h h0
 ·rename_i h0; exact Decidable.of_not_not h0
theorem unwrap_rem {top : Nd} {i : Int} (h : (Nd.unwrap top i).2.2.2.2 = 0) : (Nd.remove top i).2.2.2.2 = 0 := by
 rw [Nd.unwrap] at h
 split at h
 ·rename_i h0; exact absurd h h0
 ·rename_i h0; exact Decidable.of_not_not h0
end Nd
section
variable {A : Ar} {top : Nd}
open Nd
theorem i64nat {k : Nat} (h : k ≤ 1000000) : I64 (k : Int) := ⟨by show (-9223372036854775808 : Int) ≤ _; omega, by show _ ≤ (9223372036854775807 : Int); omega⟩
theorem Abs.rem_small (hA : Abs A top) {i : Int} (h : (Nd.remove top i).2.2.2.2 = 0) : I64 (Nd.remove top i).2.2.1 ∧ I64 (Nd.remove top i).2.2.2.1 ∧ (Nd.remove top i).2.1.size ≤ 100000 ∧ Nd.whr i top = some ((Nd.remove top i).2.2.1, (Nd.remove top i).2.2.2.1) := by
 have hs := hA.size_le
 rcases hA.rem i with ⟨h0, _⟩ | ⟨p, k, hk, hi, hid, hfi, hw, hf, e, o1, o2, o3⟩
 ·exact absurd h h0
 ·rw [e]
  have h1 := Nd.find_size i _ _ hfi
  have h2 := Nd.find_size p.id _ _ hf
  have h3 := Nd.len_le_sizes p.kids
  have h4 := Nd.kids_lt p
  refine ⟨hA.i64 _ ?_, i64nat (by omega), by show (p.kids[k]).size ≤ _; omega, hw⟩
  exact (find_some p.id top).1 (by rw [hf]; rfl)
theorem Abs.unwrap_small (hA : Abs A top) {i : Int} (h : (Nd.unwrap top i).2.2.2.2 = 0) : I64 (Nd.unwrap top i).2.1 ∧ I64 (Nd.unwrap top i).2.2.1 ∧ I64 (Nd.unwrap top i).2.2.2.1 := by
 obtain ⟨h1, h2, h3, _⟩ := hA.rem_small (unwrap_rem h)
 rw [Nd.unwrap] at h ⊢
 split at h
 ·rename_i h0; exact absurd h h0
 rename_i h0
 rw [if_neg h0]
 split at h
 ·exact absurd h (by show ¬ (33 : Int) = 0; decide)
 rename_i hg
 rw [if_neg hg]
 have h5 := Nd.len_le_sizes (Nd.remove top i).2.1.kids
 have h6 := Nd.kids_lt (Nd.remove top i).2.1
 exact ⟨h1, h2, i64nat (by omega)⟩
end
end Go.Tr
namespace Go.Dc
open Go.Sl Go.Ls Go.Tr
theorem dom_move {at_ : Int → Option Atr} {o o' : List Int} (hdom : ∀ i, (at_ i).isSome = true ↔ i ≠ 0 ∧ i ∈ o) (hc : ∀ x, o'.count x = o.count x) : ∀ i, (at_ i).isSome = true ↔ i ≠ 0 ∧ i ∈ o' := by
 intro i
 rw [hdom i, mem_count, mem_count, hc i]
theorem dom_unwrap {at_ : Int → Option Atr} {o o' : List Int} {j : Int} (hdom : ∀ i, (at_ i).isSome = true ↔ i ≠ 0 ∧ i ∈ o) (hn : o.Nodup) (hc : ∀ x, o'.count x + (if j = x then 1 else 0) = o.count x) : ∀ i, (downAt at_ j i).isSome = true ↔ i ≠ 0 ∧ i ∈ o' := by
 intro i
 have h1 := hc i
 have h2 := nodup_count hn i
 rw [downAt, mem_count]
 by_cases h : i = j
 ·subst h
  rw [if_pos rfl] at h1 ⊢
  constructor
  ·intro h; cases h
  ·rintro ⟨_, h3⟩; omega
 ·rw [if_neg h, hdom i, mem_count]
  rw [if_neg (fun e => h e.symm)] at h1
  rw [← h1, Nat.add_zero]
theorem dropAll_some : ∀ (l : List Ent) (f : Int → Option Atr) (i : Int), (dropAll f l i).isSome = true ↔ (f i).isSome = true ∧ i ∉ l.map Ent.id
 | [], f, i => by simp [dropAll]
 | x :: l, f, i => by
  rw [dropAll, dropAll_some l, downAt, List.map_cons, List.mem_cons]
  by_cases h : i = x.id
  ·simp [h]
  ·simp [h]
theorem dropAll_of : ∀ (l : List Ent) (f : Int → Option Atr) (i : Int) (a : Atr), dropAll f l i = some a → f i = some a
 | [], f, i, a, h => h
 | x :: l, f, i, a, h => by
  rw [dropAll] at h
  have h := dropAll_of l _ i a h
  rw [downAt] at h
  split at h
  ·cases h
  ·exact h
theorem dropAll_snoc : ∀ (l : List Ent) (f : Int → Option Atr) (x : Ent), dropAll f (l ++ [x]) = downAt (dropAll f l) x.id
 | [], f, x => rfl
 | y :: l, f, x => by rw [List.cons_append, dropAll, dropAll, dropAll_snoc l]
theorem dom_remove {at_ : Int → Option Atr} {o o' m : List Int} {l : List Ent} (hdom : ∀ i, (at_ i).isSome = true ↔ i ≠ 0 ∧ i ∈ o) (hn : o.Nodup) (hm : l.map Ent.id = m) (hc : ∀ x, o'.count x + m.count x = o.count x) : ∀ i, (dropAll at_ l i).isSome = true ↔ i ≠ 0 ∧ i ∈ o' := by
 intro i
 have h1 := hc i
 have h2 := nodup_count hn i
 rw [dropAll_some, hm, hdom i]
 simp only [mem_count]
 omega
theorem ents_ids (at_ : Int → Atr) (n : Nd) : (ents at_ n).map Ent.id = n.order := by
 refine Nd.rec (motive_1 := fun n => (ents at_ n).map Ent.id = n.order) (motive_2 := fun l => (entss at_ l).map Ent.id = Nd.orders l) ?_ ?_ ?_ n
 ·intro i g ks h
  rw [ents, Nd.order, List.map_cons, h]
 ·rw [entss, Nd.orders]; rfl
 ·intro k ks h1 h2
  rw [entss, Nd.orders, List.map_append, h1, h2]
theorem ents_atr {at_ : Int → Atr} {n : Nd} {x : Ent} : x ∈ ents at_ n → x.atr = at_ x.id := by
 refine Nd.rec (motive_1 := fun n => x ∈ ents at_ n → x.atr = at_ x.id) (motive_2 := fun l => x ∈ entss at_ l → x.atr = at_ x.id) ?_ ?_ ?_ n
 ·intro i g ks h hx
  rw [ents] at hx
  rcases List.mem_cons.1 hx with rfl | hx
  ·rfl
  ·exact h hx
 ·intro hx; rw [entss] at hx; cases hx
 ·intro k ks h1 h2 hx
  rw [entss] at hx
  rcases List.mem_append.1 hx with hx | hx
  ·exact h1 hx
  ·exact h2 hx
theorem segsOf_nonneg : ∀ l : List Ent, 0 ≤ segsOf l
 | [] => Int.le_refl _
 | x :: l => by
  have := segsOf_nonneg l
  show 0 ≤ (x.atr.path.length : Int) + segsOf l
  omega
theorem segsOf_le {m : Nat} : ∀ {l : List Ent}, (∀ x ∈ l, x.atr.path.length ≤ m) → segsOf l ≤ l.length * m
 | [], _ => by show (0 : Int) ≤ _; simp
 | x :: l, h => by
  have h1 := segsOf_le (l := l) fun y hy => h y (.tail _ hy)
  have h2 := h x (.head _)
  show (x.atr.path.length : Int) + segsOf l ≤ _
  rw [List.length_cons, Int.natCast_add, Int.add_mul]
  omega
theorem AtRep.down {I : Mem} {at_ : Int → Option Atr} {f : Int → Option Value} (h : AtRep I at_ f) (j : Int) : AtRep I (downAt at_ j) (Sl.del f j) := fun i => by
 rw [downAt, Sl.del]
 by_cases hi : i = j
 ·rw [if_pos hi, if_pos hi]
  exact .inl ⟨rfl, rfl⟩
 ·rw [if_neg hi, if_neg hi]
  exact h i
theorem lim_down {at_ : Int → Option Atr} (h : ∀ i a, at_ i = some a → a.lim) (j : Int) : ∀ i a, downAt at_ j i = some a → a.lim := fun i a ha => by
 rw [downAt] at ha
 split at ha
 ·cases ha
 ·exact h i a ha
end Go.Dc

namespace Go.Proofs.YtggcpoleklcmkaaGreatDoor
open Go.Sl Go.Ls Go.Tr Go.Dc
attribute [local irreducible] WC WL WX WK WA WAK Val Ctr RunRes ResIs Rd At sl box pt Exit.then Exit.inBlock bodyPost Code.wp wpList
theorem whr_v (r : Option (Int × Int)) : ∃ b, whrV r = .tuple #[vi (r.getD (0, 0)).1, vi (r.getD (0, 0)).2, .bool b] := by
 cases r with
 | none => exact ⟨false, rfl⟩
 | some q => exact ⟨true, rfl⟩
theorem dMove (D : Dm) (d : Dr) (c : Cm) (e t u dd q : Value) (I : Mem) (hD : DAbs I D d) (hc : c.at_ I e t u dd q) :
  Ctr Tryz.prog 68 [ptr D.b, .agg (c.cs e t u dd q).toArray] I D.hp (ApplyR (d.move c) D) := by
 obtain ⟨x0, y0, x1, y1, x2, y2, x3, y3, x4, y4, rfl, rfl, rfl, rfl, rfl⟩ := hc.sl
 obtain ⟨wb, hw⟩ := whr_v (Nd.whr c.id d.top)
 have hmv : d.move c = if (Nd.move d.top c.id c.parent c.index).2 ≠ 0 then (d, Cm.z, (Nd.move d.top c.id c.parent c.index).2) else ({ d with top := (Nd.move d.top c.id c.parent c.index).1 }, { Cm.z with kind := 3, id := c.id, parent := ((Nd.whr c.id d.top).getD (0, 0)).1, index := ((Nd.whr c.id d.top).getD (0, 0)).2 }, 0) := by
  rw [Dr.move]
 rw [hmv]
 clear hmv
 refine Ctr.intro Tryz.func68 rfl rfl rfl fun E F => ?_
 refine jS (WL.boxA rfl rfl (fun _ => ?_))
 refine jW ?_
 refine WL.alloc rfl (fun _ => ?_)
 refine jW ?_
 refine jf rfl (jM (jB ?_))
 rename_i g3 g4
 refine j8 999 [1, 7] rfl (jT 0 rfl (Val.moveP rfl) (jT 1 rfl (jr rfl) (jT 2 rfl (jn rfl) (jT 3 rfl (jp 0 rfl rfl rfl) (jT 4 rfl (jn rfl) (jT 5 rfl (jp 1 rfl rfl rfl) (j5 6 rfl (WL.callK [3, 3, 3, 3, 3] rfl rfl rfl (aWhere D.A d.top hD.abs c.id _) rfl ?_))))))))
 rintro _ rfl
 rw [hw]
 refine jC (j7 [1, 7] rfl (jT 7 rfl (Val.moveT rfl) (jT 8 rfl (jq rfl rfl) (jT 9 rfl (jq rfl rfl) (jT 10 rfl (Val.extractB rfl rfl) (jT 11 rfl (Val.assignI rfl) (jT 12 rfl (Val.assignI rfl) (jT 13 rfl (Val.assignB rfl) (j6 (jA (jB (jB (j8 999 [1, 7] rfl (jT 0 rfl (Val.moveP rfl) (jT 1 rfl (jr rfl) (jT 2 rfl (jn rfl) (jT 3 rfl (jp 0 rfl rfl rfl) (jT 4 rfl (jn rfl) (jT 5 rfl (jp 1 rfl rfl rfl) (jT 6 rfl (jn rfl) (jT 7 rfl (jp 1 rfl rfl rfl) (jT 8 rfl (jn rfl) (jT 9 rfl (jp 1 rfl rfl rfl) (j5 10 rfl (WL.callP [3, 3, 3, 3, 3] rfl rfl (tMove D.A d.top hD.abs c.id c.parent c.index _) rfl ?_)))))))))))))))))))))))))
 rintro _ I1 _ hI1 ⟨rfl, B, hb, rfl, hB⟩
 refine jW ?_
 refine jC (j9 [1, 2] (hI1) rfl (jT 11 rfl (Val.assignI rfl) (j6 ?_)))
 rw [← hb]
 by_cases h2 : (Nd.move d.top c.id c.parent c.index).2 = 0
 case neg =>
  rw [if_pos h2]
  refine jK (ja rfl (jJ rfl rfl (jM (jF (jS (jm (Val.build0) ?_))))))
  refine ja rfl (WL.stA 4 rfl rfl rfl rfl ?_)
  refine jf rfl (jM (jR (jU ?_)))
  refine jP [0, 0, 2, 2, 2, 2, 2] (jr2 rfl (jcL 4 rfl rfl rfl) (jtI rfl)) ?_
  rw [Nd.move_err h2] at hB
  exact ⟨{ D with A := B }, _, rfl, Cm.z_rep _, rfl, rfl, ⟨hB, hD.rep.mono hI1, hD.segs, hD.dom, hD.lim⟩⟩
 rw [if_neg (fun e => e h2)]
 obtain ⟨r1, r2, _, r4⟩ := hD.abs.rem_small (Nd.move_rem h2)
 refine jK (ja rfl (jz rfl rfl (jM (jE (jV (jK (jm (jn rfl) (jm (jp 3 rfl rfl rfl) (ja rfl (ja rfl (jm (Val.build (cs := (Cm.cs { Cm.z with kind := 3, id := c.id, parent := ((Nd.whr c.id d.top).getD (0, 0)).1, index := ((Nd.whr c.id d.top).getD (0, 0)).2 } (.slice none 0 0) (.slice none 0 0) (.slice none 0 0) (.slice none 0 0) (.slice none 0 0))) rfl) ?_)))))))))))
 refine WL.stA 4 rfl rfl rfl rfl ?_
 refine jf rfl (jM (jR ?_))
 refine jP [0, 0, 2, 2, 2, 2, 2] (jr2 rfl (jcL 4 rfl rfl rfl) (jtI rfl)) ?_
 refine ⟨{ D with A := B }, _, rfl, ⟨_, _, _, _, _, rfl, (⟨by decide, by decide⟩ : I64 3), hc.id, ?_, ?_, i64z, i64z, i64z, LsAt.nil _ _, Atr.z_at _, Sg.z_ok, Pt.z_ok⟩, rfl, rfl, ⟨hB, hD.rep.mono hI1, hD.segs, dom_move hD.dom (hD.abs.count_move h2), hD.lim⟩⟩
 ·rw [r4]; exact r1
 ·rw [r4]; exact r2
theorem dUnwrap (D : Dm) (d : Dr) (c : Cm) (e t u dd q : Value) (I : Mem) (hD : DAbs I D d) (hc : c.at_ I e t u dd q) :
  Ctr Tryz.prog 70 [ptr D.b, .agg (c.cs e t u dd q).toArray] I D.hp (ApplyR (d.unwrap c) D) := by
 obtain ⟨x0, y0, x1, y1, x2, y2, x3, y3, x4, y4, rfl, rfl, rfl, rfl, rfl⟩ := hc.sl
 obtain ⟨ta, ua, da, qa, hv, haa⟩ := hD.rep.get c.id
 have hmv : d.unwrap c = if (Nd.unwrap d.top c.id).2.2.2.2 ≠ 0 then (d, Cm.z, (Nd.unwrap d.top c.id).2.2.2.2) else (⟨(Nd.unwrap d.top c.id).1, downAt d.at_ c.id, d.segs⟩, { Cm.z with kind := 4, id := c.id, parent := (Nd.unwrap d.top c.id).2.1, index := (Nd.unwrap d.top c.id).2.2.1, count := (Nd.unwrap d.top c.id).2.2.2.1, atr := (d.at_ c.id).getD Atr.z }, 0) := by
  rw [Dr.unwrap]; rfl
 rw [hmv]
 clear hmv
 generalize (d.at_ c.id).getD Atr.z = a at hv haa ⊢
 have haa0 := haa
 obtain ⟨a1, c1, a2, c2, a3, c3, a4, c4, rfl, rfl, rfl, rfl⟩ := haa.sl
 refine Ctr.intro Tryz.func70 rfl rfl rfl fun E F => ?_
 refine jS (WL.boxA rfl rfl (fun _ => ?_))
 refine jW ?_
 refine WL.alloc rfl (fun _ => ?_)
 refine jW ?_
 refine jf rfl (jM (jB ?_))
 rename_i g3 g4
 refine j8 999 [1, 7] rfl (jT 0 rfl (Val.moveP rfl) (jT 1 rfl (jr rfl) (jT 2 rfl (jn rfl) (jT 3 rfl (jp 0 rfl rfl rfl) (jT 4 rfl (jn rfl) (jT 5 rfl (jp 1 rfl rfl rfl) (j5 6 rfl (WL.callP [3, 3, 3, 3, 3] rfl rfl (tUnwrap D.A d.top hD.abs c.id _) rfl ?_))))))))
 rintro _ I1 _ hI1 ⟨_, B, rfl, hb, rfl, hB⟩
 refine jW ?_
 refine jC (j9 [1, 2] (hI1) rfl (jT 7 rfl (Val.moveT rfl) (jT 8 rfl (jq rfl rfl) (jT 9 rfl (jq rfl rfl) (jT 10 rfl (jq rfl rfl) (jT 11 rfl (jq rfl rfl) (jT 12 rfl (Val.assignI rfl) (jT 13 rfl (Val.assignI rfl) (jT 14 rfl (Val.assignI rfl) (jT 15 rfl (Val.assignI rfl) (j6 ?_)))))))))))
 rw [← hb]
 by_cases h2 : (Nd.unwrap d.top c.id).2.2.2.2 = 0
 case neg =>
  rw [if_pos h2]
  refine jA (jB (jS (ja rfl (jJ rfl rfl (jM (jF (jS (jm (Val.build0) ?_))))))))
  refine ja rfl (WL.stA 4 rfl rfl rfl rfl ?_)
  refine jf rfl (jM (jR (jU ?_)))
  refine jP [0, 0, 2, 2, 2, 2, 2] (jr2 rfl (jcL 4 rfl rfl rfl) (jtI rfl)) ?_
  rw [Nd.unwrap_err h2] at hB
  exact ⟨{ D with A := B }, _, rfl, Cm.z_rep _, rfl, rfl, ⟨hB, hD.rep.mono hI1, hD.segs, hD.dom, hD.lim⟩⟩
 rw [if_neg (fun e => e h2)]
 obtain ⟨r1, r2, r3⟩ := hD.abs.unwrap_small h2
 refine jA (jB (jS (ja rfl (jz rfl rfl (jM (jE (jV (jA (jB (j8 999 [1, 1, 1] rfl (jT 0 rfl (Val.moveP rfl) (jT 1 rfl (jr rfl) (jT 2 rfl (jn rfl) (jT 3 rfl (jp 0 rfl rfl rfl) (jT 4 rfl (jn rfl) (jT 5 rfl (jp 2 rfl rfl rfl) (jT 6 rfl (Val.lookup1v 1 hv rfl rfl rfl) ?_)))))))))))))))))
 refine j5 7 rfl (WL.alloc rfl (fun _ => ?_))
 rename_i g10
 refine jW ?_
 refine jC (j7 [1, 1, 1] rfl (j5 8 rfl (WL.stA 10 rfl rfl rfl rfl ?_)))
 refine jC (j7 [1, 1, 1] rfl (j6 (jA (jB (j8 999 [1, 2] rfl (jT 0 rfl (Val.moveP rfl) (jT 1 rfl (jr rfl) (jT 2 rfl (jn rfl) (jT 3 rfl (jp 0 rfl rfl rfl) (jT 4 rfl (jn rfl) (jT 5 rfl (jp 1 rfl rfl rfl) (j5 6 rfl (WL.delete 2 rfl rfl rfl ?_)))))))))))))
 refine WL.nSet ?_
 refine jC (j7 [1, 2] rfl (j6 (jK (jm (jn rfl) (jm (jp 3 rfl rfl rfl) (ja rfl (ja rfl (ja rfl (jm (jt 10 rfl rfl rfl) (jm (Val.build (cs := (Cm.cs { Cm.z with kind := 4, id := c.id, parent := (Nd.unwrap d.top c.id).2.1, index := (Nd.unwrap d.top c.id).2.2.1, count := (Nd.unwrap d.top c.id).2.2.2.1, atr := a } (.slice none 0 0) (.slice a1 a.sty.fill.stops.length c1) (.slice a2 a.sty.pen.stops.length c2) (.slice a3 a.sty.dash.length c3) (.slice a4 a.path.length c4))) rfl) ?_))))))))))
 refine WL.stA 4 rfl rfl rfl rfl ?_
 refine jf rfl (jM (jR ?_))
 exact jP [0, 0, 2, 2, 2, 2, 2] (jr2 rfl (jcL 4 rfl rfl rfl) (jtI rfl)) ⟨{ D with A := B, f := Sl.del D.f c.id, cnt := _ }, _, rfl, ⟨_, _, _, _, _, rfl, (⟨by decide, by decide⟩ : I64 4), hc.id, r1, r2, r3, i64z, i64z, LsAt.nil _ _, haa0.mono hI1, Sg.z_ok, Pt.z_ok⟩, rfl, rfl, ⟨hB, (hD.rep.mono hI1).down _, hD.segs, dom_unwrap hD.dom hD.abs.od (hD.abs.count_unwrap h2), lim_down hD.lim _⟩⟩
theorem dRemove (D : Dm) (d : Dr) (c : Cm) (e t u dd q : Value) (I : Mem) (hD : DAbs I D d) (hc : c.at_ I e t u dd q) (hs0 : 0 ≤ d.segs) (hs1 : d.segs ≤ 1048576) :
  Ctr Tryz.prog 67 [ptr D.b, .agg (c.cs e t u dd q).toArray] I D.hp (ApplyR (d.remove c) D) := by
 obtain ⟨x0, y0, x1, y1, x2, y2, x3, y3, x4, y4, rfl, rfl, rfl, rfl, rfl⟩ := hc.sl
 have hmv : d.remove c = if (Nd.remove d.top c.id).2.2.2.2 ≠ 0 then (d, Cm.z, (Nd.remove d.top c.id).2.2.2.2) else (⟨(Nd.remove d.top c.id).1, dropAll d.at_ (ents (fun i => (d.at_ i).getD Atr.z) (Nd.remove d.top c.id).2.1), d.segs - segsOf (ents (fun i => (d.at_ i).getD Atr.z) (Nd.remove d.top c.id).2.1)⟩, { Cm.z with kind := 1, parent := (Nd.remove d.top c.id).2.2.1, index := (Nd.remove d.top c.id).2.2.2.1, ents := ents (fun i => (d.at_ i).getD Atr.z) (Nd.remove d.top c.id).2.1 }, 0) := by
  rw [Dr.remove]; rfl
 rw [hmv]
 clear hmv
 refine Ctr.intro Tryz.func67 rfl rfl rfl fun E F => ?_
 refine jS (WL.boxA rfl rfl (fun _ => ?_))
 refine jW ?_
 refine WL.alloc rfl (fun _ => ?_)
 refine jW ?_
 refine jf rfl (jM (jB ?_))
 rename_i g3 g4
 refine WC.cutP (fun ρ' I' L' => ∃ (kv : Value) (B : Ar) (g6 : Nat), I.le I' ∧ B.b = D.A.b ∧ Abs B (Nd.remove d.top c.id).1 ∧ LsAt Nd.Rp I' (Nd.remove d.top c.id).2.1.kids kv ∧ I64 (Nd.remove d.top c.id).2.1.id ∧
  ρ' 0 = ptr D.b ∧ ρ' 3 = ptr g3 ∧ ρ' 4 = ptr g4 ∧ ρ' 6 = ptr g6 ∧ ρ' 7 = vi (Nd.remove d.top c.id).2.2.1 ∧ ρ' 8 = vi (Nd.remove d.top c.id).2.2.2.1 ∧ ρ' 9 = vi (Nd.remove d.top c.id).2.2.2.2 ∧
  L' = [sts B.hp, F, docBox D.b D.A.b D.mb D.segs, mp D.mb D.f D.cnt, box g3 59 (c.cs (.slice x0 c.ents.length y0) (.slice x1 c.atr.sty.fill.stops.length y1) (.slice x2 c.atr.sty.pen.stops.length y2) (.slice x3 c.atr.sty.dash.length y3) (.slice x4 c.atr.path.length y4)), box g4 59 (Cm.cs Cm.z (.slice none 0 0) (.slice none 0 0) (.slice none 0 0) (.slice none 0 0) (.slice none 0 0)), box g6 72 [vi (Nd.remove d.top c.id).2.1.id, .bool (Nd.remove d.top c.id).2.1.grp, kv]]) ?_ ?_
 ·skip
  refine j8 999 [1, 7] rfl (jT 0 rfl (Val.moveP rfl) (jT 1 rfl (jr rfl) (jT 2 rfl (jn rfl) (jT 3 rfl (jp 0 rfl rfl rfl) (jT 4 rfl (jn rfl) (jT 5 rfl (jp 1 rfl rfl rfl) ?_))))))
  refine jee 6 12 rfl rfl ?_ ?_
  ·refine WL.callP [3, 3, 3, 3, 3] rfl rfl (tRemove D.A d.top hD.abs c.id _) rfl ?_
   rintro _ I1 _ hI1 ⟨_, B, rfl, ⟨kv, rfl, hkv, hid⟩, hb, rfl, hB⟩
   obtain ⟨ka, kc, rfl⟩ := hkv.sl
   refine jW ?_
   refine jC (j9 [1, 2] (hI1) rfl (jT 7 rfl (Val.moveT rfl) (jT 8 rfl (Val.extractA rfl rfl) (jT 9 rfl (jq rfl rfl) (jT 10 rfl (jq rfl rfl) (jT 11 rfl (jq rfl rfl) (j5 12 rfl (WL.alloc rfl (fun _ => ?_)))))))))
   rename_i g6
   refine jW ?_
   refine jC (j9 [1, 2] (hI1) rfl (j5 13 rfl (WL.stA 10 rfl rfl rfl rfl ?_)))
   refine jC (j9 [1, 2] (hI1) rfl (jT 14 rfl (Val.assignI rfl) (jT 15 rfl (Val.assignI rfl) (jT 16 rfl (Val.assignI rfl) (j6 (WX.conv (fun w h => Sat.fold B.hp (h.sub [5, 5, 5, 5, 5, 0, 0, 0, 0, 0, 0] rfl)) ?_))))))
   refine WX.thenK (WK.meet ?_)
   exact ⟨_, B, g6, hI1, hb, hB, hkv, hid, rfl, rfl, rfl, rfl, rfl, rfl, rfl, rfl⟩
  ·skip
   refine WL.alloc rfl (fun _ => ?_)
   rename_i g6
   refine jW ?_
   refine jC (j7 [1, 7] rfl (j5 6 rfl (WL.callP [3, 3, 3, 3, 3] rfl rfl (tRemove D.A d.top hD.abs c.id _) rfl ?_)))
   rintro _ I1 _ hI1 ⟨_, B, rfl, ⟨kv, rfl, hkv, hid⟩, hb, rfl, hB⟩
   obtain ⟨ka, kc, rfl⟩ := hkv.sl
   refine jW ?_
   refine jC (j9 [1, 2] (hI1) rfl (jT 7 rfl (Val.moveT rfl) (jT 8 rfl (Val.extractA rfl rfl) (jT 9 rfl (jq rfl rfl) (jT 10 rfl (jq rfl rfl) (jT 11 rfl (jq rfl rfl) (j5 13 rfl (WL.stA 5 rfl rfl rfl rfl ?_))))))))
   refine jC (j9 [1, 2] (hI1) rfl (jT 14 rfl (Val.assignI rfl) (jT 15 rfl (Val.assignI rfl) (jT 16 rfl (Val.assignI rfl) (j6 (WX.conv (fun w h => Sat.fold B.hp (h.sub [6, 6, 6, 6, 6, 0, 0, 0, 0, 0, 0] rfl)) ?_))))))
   refine WX.thenK (WK.meet ?_)
   exact ⟨_, B, g6, hI1, hb, hB, hkv, hid, rfl, rfl, rfl, rfl, rfl, rfl, rfl, rfl⟩
 rintro ρ' I1 L' ⟨kv, B, g6, hI1, hb, hB, hkv, hid, r0, r3, r4, r6, r7, r8, r9, rfl⟩
 refine ju7 r9 r8 r7 r6 r4 r3 r0 ?_
 rw [← hb]
 by_cases h2 : (Nd.remove d.top c.id).2.2.2.2 = 0
 case neg =>
  rw [if_pos h2]
  have hrt : (Nd.remove d.top c.id).1 = d.top := by
   rcases hD.abs.rem c.id with ⟨_, h⟩ | ⟨p, k, hk, _, _, _, _, _, e, _⟩
   ·exact h
   ·rw [e] at h2; exact absurd rfl h2
  refine jB (jS (ja rfl (jJ rfl rfl (jM (jF (jS (jm (Val.build0) ?_)))))))
  refine ja rfl (WL.stA 5 rfl rfl rfl rfl ?_)
  refine jf rfl (jM (jR (jU (WX.conv (fun w h => (Sat.unfold h).sub [5, 5, 5, 0, 0, 0, 0, 0, 1] rfl) ?_))))
  refine jP [0, 0, 0, 0, 0, 0, 0] (jr2 rfl (jcL 8 rfl rfl rfl) (jtI rfl)) ?_
  rw [hrt] at hB
  exact ⟨{ D with A := B }, _, rfl, Cm.z_rep _, rfl, rfl, ⟨hB, hD.rep.mono hI1, hD.segs, hD.dom, hD.lim⟩⟩
 rw [if_neg (fun e => e h2)]
 obtain ⟨s1, s2, s3, s4⟩ := hD.abs.rem_small h2
 obtain ⟨o1, o2, o3, o4, o5⟩ := hD.abs.rem_nodup h2
 have hcnt := hD.abs.count_rem h2
 generalize (Nd.remove d.top c.id).1 = top' at *
 generalize (Nd.remove d.top c.id).2.1 = nd at *
 generalize (Nd.remove d.top c.id).2.2.1 = rp at *
 generalize (Nd.remove d.top c.id).2.2.2.1 = ri at *
 have hkv0 := hkv
 obtain ⟨ka, kc, rfl⟩ := hkv.sl
 refine jB (jS (ja rfl (jz rfl rfl (jM (jE (jV (jK (jd rfl (jm (jt 6 rfl rfl rfl) (WL.callR [2, 2] rfl rfl rfl (entries_ctr d.at_ D.f D.b B.b D.mb D.cnt D.segs hD.lim _ nd (Nat.le_refl _) _ _ (by omega) hkv0 hid (hD.rep.mono hI1)) rfl ?_))))))))))
 rintro v I2 hI2 hv
 have hlen := ents_len (fun i => (d.at_ i).getD Atr.z) nd
 have hids := ents_ids (fun i => (d.at_ i).getD Atr.z) nd
 have hlm : ∀ x ∈ ents (fun i => (d.at_ i).getD Atr.z) nd, x.atr.path.length ≤ 1000000 := fun x hx => by
  rw [ents_atr hx]
  show ((d.at_ x.id).getD Atr.z).path.length ≤ _
  cases h : d.at_ x.id with
  | none => exact Nat.zero_le _
  | some a => exact (hD.lim _ _ h).1
 have hnn := segsOf_nonneg (ents (fun i => (d.at_ i).getD Atr.z) nd)
 generalize ents (fun i => (d.at_ i).getD Atr.z) nd = l at *
 have hv0 := hv
 obtain ⟨la, lc, rfl⟩ := hv.sl
 have hds := hD.segs
 rw [hds]
 refine jh rfl (jM (jB (jS (jc rfl (jm (jo rfl) (ja rfl (jM (WC.block ?_))))))))
 have hJ2 := hI1.trans hI2
 refine WC.loop (fun n ρ' I' L' => ∃ (k : Nat) (f' : Int → Option Value) (cnt' : Nat), n = l.length - k ∧ k ≤ l.length ∧ I' = I2 ∧ ρ' 0 = ptr D.b ∧ ρ' 4 = ptr g4 ∧ ρ' 7 = vi rp ∧ ρ' 8 = vi ri ∧ ρ' 10 = .slice la l.length lc ∧ ρ' 32 = .slice la l.length lc ∧ ρ' 33 = vi l.length ∧ ρ' 34 = vi k ∧
   L' = [sts B.hp, F, docBox D.b B.b D.mb (d.segs - segsOf (l.take k)), mp D.mb f' cnt', box g3 59 (c.cs (.slice x0 c.ents.length y0) (.slice x1 c.atr.sty.fill.stops.length y1) (.slice x2 c.atr.sty.pen.stops.length y2) (.slice x3 c.atr.sty.dash.length y3) (.slice x4 c.atr.path.length y4)), box g4 59 (Cm.cs Cm.z (.slice none 0 0) (.slice none 0 0) (.slice none 0 0) (.slice none 0 0) (.slice none 0 0)), box g6 72 [vi nd.id, .bool nd.grp, .slice ka nd.kids.length kc]] ∧ AtRep I2 (dropAll d.at_ (l.take k)) f')
  l.length ⟨0, D.f, D.cnt, rfl, by omega, rfl, rfl, rfl, rfl, rfl, rfl, rfl, rfl, rfl, by rw [List.take_zero]; show _ = [_, _, docBox _ _ _ (d.segs - 0), _, _, _, _]; rw [Int.sub_zero], hD.rep.mono hJ2⟩ ?_
 rintro n ρ' I3 L' ⟨k, f', cnt', rfl, hk, rfl, r0, r4, r7, r8, r10, r32, r33, r34, rfl, hrep⟩
 refine ju8 r34 r33 r32 r10 r8 r7 r4 r0 ?_
 by_cases hkn : k < l.length
 ·obtain ⟨b, off, cap', cs, he, ⟨t1, t2, t3, t4, rfl, hi⟩, hA⟩ := hv0.get k hkn
  cases he
  have hds2 := dropAll_snoc (l.take k) d.at_ l[k]
  have hss := segsOf_snoc (l.take k) l[k]
  rw [← List.take_succ_eq_append_getElem hkn] at hds2 hss
  have hb1 := segsOf_le (m := 1000000) (l := l.take k) fun x hx => hlm x (List.mem_of_mem_take hx)
  have hb0 := segsOf_nonneg (l.take k)
  rw [List.length_take, Nat.min_eq_left (by omega)] at hb1
  have hlk := hlm _ (List.getElem_mem hkn)
  have hlll : (l.length : Int) ≤ 100000 := by omega
  obtain ⟨b1, d1, b2, d2, b3, d3, b4, d4, rfl, rfl, rfl, rfl⟩ := hi.sl
  generalize l[k] = x at *
  refine jS (jy rfl rfl (jM (jB (jF (jV (jA (jB (WC.block (jS (jm (jZ rfl rfl) (jm (Val.loadI rfl (by assumption) rfl) ?_)))))))))))
  refine WL.alloc rfl (fun _ => ?_)
  refine jW ?_
  refine WL.stA 7 rfl rfl rfl rfl ?_
  refine jM (jB (j8 11 [2, 6] rfl (jT 0 rfl (Val.moveP rfl) (jT 1 rfl (jr rfl) (jT 2 rfl (jn rfl) (jT 3 rfl (jp 0 rfl rfl rfl) (jT 4 rfl (jn rfl) (jT 5 rfl (jn rfl) (jT 6 rfl (jp 1 rfl rfl rfl) (jT 7 rfl (jo rfl) (jT 8 rfl (Val.sub rfl rfl (wrap_i64 (by omega) (by omega))) ?_)))))))))))
  refine j5 9 rfl (jm (jr rfl) (jC (j7 [2, 6] rfl (j5 10 rfl (jm (jn rfl) (jC (j7 [2, 6] rfl (j5 11 rfl (WL.stI 2 rfl rfl rfl rfl ?_)))))))))
  refine jC (WK.anyLast (WA.done (by kernel_rfl) (jA (j8 999 [2, 6] rfl (jT 0 rfl (Val.moveP rfl) (jT 1 rfl (jr rfl) (jT 2 rfl (jn rfl) (jT 3 rfl (jp 0 rfl rfl rfl) (jT 4 rfl (jn rfl) (jT 5 rfl (jp 1 rfl rfl rfl) (j5 6 rfl (WL.delete 3 rfl rfl rfl ?_))))))))))))
  refine WL.nSet ?_
  refine jC (j7 [2, 6] rfl (j6 (WX.inNormal (jA (jD (jX rfl rfl (ja rfl (jC ?_))))))))
  rw [show d.segs - segsOf (l.take k) - (x.atr.path.length : Int) = d.segs - segsOf (l.take (k + 1)) by omega]
  refine WX.conv (fun w h => h.sub [0, 0, 0, 0, 0, 0, 0] rfl) ?_
  refine WX.thenK (WK.round (l.length - (k + 1)) (by omega) ⟨k + 1, _, _, rfl, by omega, rfl, rfl, rfl, rfl, rfl, rfl, rfl, rfl, rfl, rfl, ?_⟩)
  rw [hds2]
  exact hrep.down _
 ·have hkl : k = l.length := by omega
  subst hkl
  rw [List.take_length] at hrep ⊢
  refine jS (jx rfl rfl (jM (jB (jE (WC.exit (WX.thenExit (WX.thenExit (WX.inHit (jK (ja rfl (ja rfl (jc rfl (jm (Val.build (cs := (Cm.cs { Cm.z with kind := 1, parent := rp, index := ri, ents := l } (.slice la l.length lc) (.slice none 0 0) (.slice none 0 0) (.slice none 0 0) (.slice none 0 0))) rfl) ?_)))))))))))))
  refine WL.stA 5 rfl rfl rfl rfl ?_
  refine jf rfl (jM (jR (WX.conv (fun w h => (Sat.unfold h).sub [5, 5, 5, 0, 0, 0, 0, 0, 1] rfl) ?_)))
  exact jP [0, 0, 0, 0, 0, 0, 0] (jr2 rfl (jcL 8 rfl rfl rfl) (jtI rfl)) ⟨{ D with A := B, f := f', cnt := cnt', segs := d.segs - segsOf l }, _, rfl, ⟨_, _, _, _, _, rfl, (⟨by decide, by decide⟩ : I64 1), i64z, s1, s2, i64z, i64z, i64z, hv0, Atr.z_at _, Sg.z_ok, Pt.z_ok⟩, rfl, rfl, ⟨hB, hrep, rfl, dom_remove hD.dom hD.abs.od hids hcnt, fun i a h => hD.lim _ _ (dropAll_of _ _ _ _ h)⟩⟩
theorem dApply (D : Dm) (d : Dr) (c : Cm) (e t u dd q : Value) (I : Mem) (hN : NeedAt I) (hD : DAbs I D d) (hc : c.at_ I e t u dd q) (hle : c.ents.length ≤ 100000) (hs0 : 0 ≤ d.segs) (hs1 : d.segs + segsOf c.ents ≤ 1048576) :
  Ctr Tryz.prog 24 [ptr D.b, .agg (c.cs e t u dd q).toArray] I D.hp (ApplyR (d.apply c) D) := by
 have hc0 := hc
 have hsg := segsOf_nonneg c.ents
 obtain ⟨a0, c0, a1, c1, a2, c2, a3, c3, a4, c4, rfl, rfl, rfl, rfl, rfl⟩ := hc.sl
 refine Ctr.intro Tryz.func24 rfl rfl rfl fun E F => ?_
 by_cases k1 : c.kind = 1
 ·rw [show d.apply c = d.add c by rw [Dr.apply, if_pos k1]]
  refine jS (WL.boxA rfl rfl (fun _ => ?_))
  refine jW ?_
  refine WL.alloc rfl (fun _ => ?_)
  refine jW ?_
  refine jf rfl (jM (jB (jS (jm (jn rfl) (jm (jp 8 rfl rfl rfl) (jM (WC.block (jS (jw rfl rfl (jg rfl (jM (jF (jS (jd rfl (jm (jt 8 rfl rfl rfl) (WL.callP [1, 1, 1, 1, 1, 1, 1] rfl rfl (dAdd D d c _ _ _ _ _ _ hN hD hc0 hle hs0 hs1) rfl ?_))))))))))))))))
  rintro _ I1 _ hI1 ⟨D', bcs, rfl, ⟨e', t', u', d', q', rfl, hbk⟩, hb, rfl, hD'⟩
  have hbk0 := hbk
  obtain ⟨_, _, _, _, _, _, _, _, _, _, rfl, rfl, rfl, rfl, rfl⟩ := hbk.sl
  refine jW ?_
  refine jm (Val.extractA rfl rfl) (jm (jq rfl rfl) (WL.stA 2 rfl rfl rfl rfl ?_))
  refine jf rfl (jM (jR (WX.inRet (jU ?_))))
  exact jP [2, 2, 2, 2, 2, 2, 2] (jr2 rfl (jcL 2 rfl rfl rfl) (jtI rfl)) ⟨D', _, rfl, ⟨_, _, _, _, _, rfl, hbk0⟩, hb, rfl, hD'⟩
 by_cases k2 : c.kind = 2
 ·rw [show d.apply c = d.remove c by rw [Dr.apply, if_neg k1, if_pos k2]]
  refine jS (WL.boxA rfl rfl (fun _ => ?_))
  refine jW ?_
  refine WL.alloc rfl (fun _ => ?_)
  refine jW ?_
  refine jf rfl (jM (jB (jS (jm (jn rfl) (jm (jp 8 rfl rfl rfl) (jM (WC.block (jCf rfl rfl (jS (jw rfl rfl (jg rfl (jM (jF (jS (jd rfl (jm (jt 8 rfl rfl rfl) (WL.callP [1, 1, 1, 1, 1, 1, 1] rfl rfl (dRemove D d c _ _ _ _ _ _ hD hc0 hs0 (by omega)) rfl ?_)))))))))))))))))
  rintro _ I1 _ hI1 ⟨D', bcs, rfl, ⟨e', t', u', d', q', rfl, hbk⟩, hb, rfl, hD'⟩
  have hbk0 := hbk
  obtain ⟨_, _, _, _, _, _, _, _, _, _, rfl, rfl, rfl, rfl, rfl⟩ := hbk.sl
  refine jW ?_
  refine jm (Val.extractA rfl rfl) (jm (jq rfl rfl) (WL.stA 2 rfl rfl rfl rfl ?_))
  refine jf rfl (jM (jR (WX.inRet (jU ?_))))
  exact jP [2, 2, 2, 2, 2, 2, 2] (jr2 rfl (jcL 2 rfl rfl rfl) (jtI rfl)) ⟨D', _, rfl, ⟨_, _, _, _, _, rfl, hbk0⟩, hb, rfl, hD'⟩
 by_cases k3 : c.kind = 3
 ·rw [show d.apply c = d.move c by rw [Dr.apply, if_neg k1, if_neg k2, if_pos k3]]
  refine jS (WL.boxA rfl rfl (fun _ => ?_))
  refine jW ?_
  refine WL.alloc rfl (fun _ => ?_)
  refine jW ?_
  refine jf rfl (jM (jB (jS (jm (jn rfl) (jm (jp 8 rfl rfl rfl) (jM (WC.block (jCf rfl rfl (jCf rfl rfl (jS (jw rfl rfl (jg rfl (jM (jF (jS (jd rfl (jm (jt 8 rfl rfl rfl) (WL.callP [1, 1, 1, 1, 1, 1, 1] rfl rfl (dMove D d c _ _ _ _ _ _ hD hc0) rfl ?_))))))))))))))))))
  rintro _ I1 _ hI1 ⟨D', bcs, rfl, ⟨e', t', u', d', q', rfl, hbk⟩, hb, rfl, hD'⟩
  have hbk0 := hbk
  obtain ⟨_, _, _, _, _, _, _, _, _, _, rfl, rfl, rfl, rfl, rfl⟩ := hbk.sl
  refine jW ?_
  refine jm (Val.extractA rfl rfl) (jm (jq rfl rfl) (WL.stA 2 rfl rfl rfl rfl ?_))
  refine jf rfl (jM (jR (WX.inRet (jU ?_))))
  exact jP [2, 2, 2, 2, 2, 2, 2] (jr2 rfl (jcL 2 rfl rfl rfl) (jtI rfl)) ⟨D', _, rfl, ⟨_, _, _, _, _, rfl, hbk0⟩, hb, rfl, hD'⟩
 by_cases k4 : c.kind = 4
 ·rw [show d.apply c = d.wrap c by rw [Dr.apply, if_neg k1, if_neg k2, if_neg k3, if_pos k4]]
  refine jS (WL.boxA rfl rfl (fun _ => ?_))
  refine jW ?_
  refine WL.alloc rfl (fun _ => ?_)
  refine jW ?_
  refine jf rfl (jM (jB (jS (jm (jn rfl) (jm (jp 8 rfl rfl rfl) (jM (WC.block (jCf rfl rfl (jCf rfl rfl (jCf rfl rfl (jS (jw rfl rfl (jg rfl (jM (jF (jS (jd rfl (jm (jt 8 rfl rfl rfl) (WL.callP [1, 1, 1, 1, 1, 1, 1] rfl rfl (dWrap D d c _ _ _ _ _ _ hN hD hc0) rfl ?_)))))))))))))))))))
  rintro _ I1 _ hI1 ⟨D', bcs, rfl, ⟨e', t', u', d', q', rfl, hbk⟩, hb, rfl, hD'⟩
  have hbk0 := hbk
  obtain ⟨_, _, _, _, _, _, _, _, _, _, rfl, rfl, rfl, rfl, rfl⟩ := hbk.sl
  refine jW ?_
  refine jm (Val.extractA rfl rfl) (jm (jq rfl rfl) (WL.stA 2 rfl rfl rfl rfl ?_))
  refine jf rfl (jM (jR (WX.inRet (jU ?_))))
  exact jP [2, 2, 2, 2, 2, 2, 2] (jr2 rfl (jcL 2 rfl rfl rfl) (jtI rfl)) ⟨D', _, rfl, ⟨_, _, _, _, _, rfl, hbk0⟩, hb, rfl, hD'⟩
 by_cases k5 : c.kind = 5
 ·rw [show d.apply c = d.unwrap c by rw [Dr.apply, if_neg k1, if_neg k2, if_neg k3, if_neg k4, if_pos k5]]
  refine jS (WL.boxA rfl rfl (fun _ => ?_))
  refine jW ?_
  refine WL.alloc rfl (fun _ => ?_)
  refine jW ?_
  refine jf rfl (jM (jB (jS (jm (jn rfl) (jm (jp 8 rfl rfl rfl) (jM (WC.block (jCf rfl rfl (jCf rfl rfl (jCf rfl rfl (jCf rfl rfl (jS (jw rfl rfl (jg rfl (jM (jF (jS (jd rfl (jm (jt 8 rfl rfl rfl) (WL.callP [1, 1, 1, 1, 1, 1, 1] rfl rfl (dUnwrap D d c _ _ _ _ _ _ hD hc0) rfl ?_))))))))))))))))))))
  rintro _ I1 _ hI1 ⟨D', bcs, rfl, ⟨e', t', u', d', q', rfl, hbk⟩, hb, rfl, hD'⟩
  have hbk0 := hbk
  obtain ⟨_, _, _, _, _, _, _, _, _, _, rfl, rfl, rfl, rfl, rfl⟩ := hbk.sl
  refine jW ?_
  refine jm (Val.extractA rfl rfl) (jm (jq rfl rfl) (WL.stA 2 rfl rfl rfl rfl ?_))
  refine jf rfl (jM (jR (WX.inRet (jU ?_))))
  exact jP [2, 2, 2, 2, 2, 2, 2] (jr2 rfl (jcL 2 rfl rfl rfl) (jtI rfl)) ⟨D', _, rfl, ⟨_, _, _, _, _, rfl, hbk0⟩, hb, rfl, hD'⟩
 by_cases k6 : 6 ≤ c.kind ∧ c.kind ≤ 12
 ·rw [show d.apply c = d.set c by rw [Dr.apply, if_neg k1, if_neg k2, if_neg k3, if_neg k4, if_neg k5, if_pos k6]]
  obtain ⟨k6, k12⟩ := k6
  have hk : c.kind = 6 ∨ c.kind = 7 ∨ c.kind = 8 ∨ c.kind = 9 ∨ c.kind = 10 ∨ c.kind = 11 ∨ c.kind = 12 := by omega
  rcases hk with hk | hk | hk | hk | hk | hk | hk
  ·skip
   refine jS (WL.boxA rfl rfl (fun _ => ?_))
   refine jW ?_
   refine WL.alloc rfl (fun _ => ?_)
   refine jW ?_
   refine jf rfl (jM (jB (jS (jm (jn rfl) (jm (jp 8 rfl rfl rfl) (jM (WC.block (jCf rfl rfl (jCf rfl rfl (jCf rfl rfl (jCf rfl rfl (jCf rfl rfl (jB (jS (jw rfl rfl (jg rfl (jM (jF (jV (jA (jF (jS (jd rfl (jm (jt 8 rfl rfl rfl) (WL.callP [1, 1, 1, 1, 1, 1, 1] rfl rfl (dSet D d c _ _ _ _ _ _ hN hD hc0 (by omega) (by omega) hs0 (by omega)) rfl ?_)))))))))))))))))))))))))
   rintro _ I1 _ hI1 ⟨D', bcs, rfl, ⟨e', t', u', d', q', rfl, hbk⟩, hb, rfl, hD'⟩
   have hbk0 := hbk
   obtain ⟨_, _, _, _, _, _, _, _, _, _, rfl, rfl, rfl, rfl, rfl⟩ := hbk.sl
   refine jW ?_
   refine jm (Val.extractA rfl rfl) (jm (jq rfl rfl) (WL.stA 2 rfl rfl rfl rfl ?_))
   refine jf rfl (jM (jR (WX.inRet (jU ?_))))
   exact jP [2, 2, 2, 2, 2, 2, 2] (jr2 rfl (jcL 2 rfl rfl rfl) (jtI rfl)) ⟨D', _, rfl, ⟨_, _, _, _, _, rfl, hbk0⟩, hb, rfl, hD'⟩
  ·skip
   refine jS (WL.boxA rfl rfl (fun _ => ?_))
   refine jW ?_
   refine WL.alloc rfl (fun _ => ?_)
   refine jW ?_
   refine jf rfl (jM (jB (jS (jm (jn rfl) (jm (jp 8 rfl rfl rfl) (jM (WC.block (jCf rfl rfl (jCf rfl rfl (jCf rfl rfl (jCf rfl rfl (jCf rfl rfl (jB (jCf rfl rfl (jS (jw rfl rfl (jg rfl (jM (jF (jV (jA (jF (jS (jd rfl (jm (jt 8 rfl rfl rfl) (WL.callP [1, 1, 1, 1, 1, 1, 1] rfl rfl (dSet D d c _ _ _ _ _ _ hN hD hc0 (by omega) (by omega) hs0 (by omega)) rfl ?_))))))))))))))))))))))))))
   rintro _ I1 _ hI1 ⟨D', bcs, rfl, ⟨e', t', u', d', q', rfl, hbk⟩, hb, rfl, hD'⟩
   have hbk0 := hbk
   obtain ⟨_, _, _, _, _, _, _, _, _, _, rfl, rfl, rfl, rfl, rfl⟩ := hbk.sl
   refine jW ?_
   refine jm (Val.extractA rfl rfl) (jm (jq rfl rfl) (WL.stA 2 rfl rfl rfl rfl ?_))
   refine jf rfl (jM (jR (WX.inRet (jU ?_))))
   exact jP [2, 2, 2, 2, 2, 2, 2] (jr2 rfl (jcL 2 rfl rfl rfl) (jtI rfl)) ⟨D', _, rfl, ⟨_, _, _, _, _, rfl, hbk0⟩, hb, rfl, hD'⟩
  ·skip
   refine jS (WL.boxA rfl rfl (fun _ => ?_))
   refine jW ?_
   refine WL.alloc rfl (fun _ => ?_)
   refine jW ?_
   refine jf rfl (jM (jB (jS (jm (jn rfl) (jm (jp 8 rfl rfl rfl) (jM (WC.block (jCf rfl rfl (jCf rfl rfl (jCf rfl rfl (jCf rfl rfl (jCf rfl rfl (jB (jCf rfl rfl (jCf rfl rfl (jS (jw rfl rfl (jg rfl (jM (jF (jV (jA (jF (jS (jd rfl (jm (jt 8 rfl rfl rfl) (WL.callP [1, 1, 1, 1, 1, 1, 1] rfl rfl (dSet D d c _ _ _ _ _ _ hN hD hc0 (by omega) (by omega) hs0 (by omega)) rfl ?_)))))))))))))))))))))))))))
   rintro _ I1 _ hI1 ⟨D', bcs, rfl, ⟨e', t', u', d', q', rfl, hbk⟩, hb, rfl, hD'⟩
   have hbk0 := hbk
   obtain ⟨_, _, _, _, _, _, _, _, _, _, rfl, rfl, rfl, rfl, rfl⟩ := hbk.sl
   refine jW ?_
   refine jm (Val.extractA rfl rfl) (jm (jq rfl rfl) (WL.stA 2 rfl rfl rfl rfl ?_))
   refine jf rfl (jM (jR (WX.inRet (jU ?_))))
   exact jP [2, 2, 2, 2, 2, 2, 2] (jr2 rfl (jcL 2 rfl rfl rfl) (jtI rfl)) ⟨D', _, rfl, ⟨_, _, _, _, _, rfl, hbk0⟩, hb, rfl, hD'⟩
  ·skip
   refine jS (WL.boxA rfl rfl (fun _ => ?_))
   refine jW ?_
   refine WL.alloc rfl (fun _ => ?_)
   refine jW ?_
   refine jf rfl (jM (jB (jS (jm (jn rfl) (jm (jp 8 rfl rfl rfl) (jM (WC.block (jCf rfl rfl (jCf rfl rfl (jCf rfl rfl (jCf rfl rfl (jCf rfl rfl (jB (jCf rfl rfl (jCf rfl rfl (jCf rfl rfl (jS (jw rfl rfl (jg rfl (jM (jF (jV (jA (jF (jS (jd rfl (jm (jt 8 rfl rfl rfl) (WL.callP [1, 1, 1, 1, 1, 1, 1] rfl rfl (dSet D d c _ _ _ _ _ _ hN hD hc0 (by omega) (by omega) hs0 (by omega)) rfl ?_))))))))))))))))))))))))))))
   rintro _ I1 _ hI1 ⟨D', bcs, rfl, ⟨e', t', u', d', q', rfl, hbk⟩, hb, rfl, hD'⟩
   have hbk0 := hbk
   obtain ⟨_, _, _, _, _, _, _, _, _, _, rfl, rfl, rfl, rfl, rfl⟩ := hbk.sl
   refine jW ?_
   refine jm (Val.extractA rfl rfl) (jm (jq rfl rfl) (WL.stA 2 rfl rfl rfl rfl ?_))
   refine jf rfl (jM (jR (WX.inRet (jU ?_))))
   exact jP [2, 2, 2, 2, 2, 2, 2] (jr2 rfl (jcL 2 rfl rfl rfl) (jtI rfl)) ⟨D', _, rfl, ⟨_, _, _, _, _, rfl, hbk0⟩, hb, rfl, hD'⟩
  ·skip
   refine jS (WL.boxA rfl rfl (fun _ => ?_))
   refine jW ?_
   refine WL.alloc rfl (fun _ => ?_)
   refine jW ?_
   refine jf rfl (jM (jB (jS (jm (jn rfl) (jm (jp 8 rfl rfl rfl) (jM (WC.block (jCf rfl rfl (jCf rfl rfl (jCf rfl rfl (jCf rfl rfl (jCf rfl rfl (jB (jCf rfl rfl (jCf rfl rfl (jCf rfl rfl (jCf rfl rfl (jS (jw rfl rfl (jg rfl (jM (jF (jV (jA (jF (jS (jd rfl (jm (jt 8 rfl rfl rfl) (WL.callP [1, 1, 1, 1, 1, 1, 1] rfl rfl (dSet D d c _ _ _ _ _ _ hN hD hc0 (by omega) (by omega) hs0 (by omega)) rfl ?_)))))))))))))))))))))))))))))
   rintro _ I1 _ hI1 ⟨D', bcs, rfl, ⟨e', t', u', d', q', rfl, hbk⟩, hb, rfl, hD'⟩
   have hbk0 := hbk
   obtain ⟨_, _, _, _, _, _, _, _, _, _, rfl, rfl, rfl, rfl, rfl⟩ := hbk.sl
   refine jW ?_
   refine jm (Val.extractA rfl rfl) (jm (jq rfl rfl) (WL.stA 2 rfl rfl rfl rfl ?_))
   refine jf rfl (jM (jR (WX.inRet (jU ?_))))
   exact jP [2, 2, 2, 2, 2, 2, 2] (jr2 rfl (jcL 2 rfl rfl rfl) (jtI rfl)) ⟨D', _, rfl, ⟨_, _, _, _, _, rfl, hbk0⟩, hb, rfl, hD'⟩
  ·skip
   refine jS (WL.boxA rfl rfl (fun _ => ?_))
   refine jW ?_
   refine WL.alloc rfl (fun _ => ?_)
   refine jW ?_
   refine jf rfl (jM (jB (jS (jm (jn rfl) (jm (jp 8 rfl rfl rfl) (jM (WC.block (jCf rfl rfl (jCf rfl rfl (jCf rfl rfl (jCf rfl rfl (jCf rfl rfl (jB (jCf rfl rfl (jCf rfl rfl (jCf rfl rfl (jCf rfl rfl (jCf rfl rfl (jS (jw rfl rfl (jg rfl (jM (jF (jV (jA (jF (jS (jd rfl (jm (jt 8 rfl rfl rfl) (WL.callP [1, 1, 1, 1, 1, 1, 1] rfl rfl (dSet D d c _ _ _ _ _ _ hN hD hc0 (by omega) (by omega) hs0 (by omega)) rfl ?_))))))))))))))))))))))))))))))
   rintro _ I1 _ hI1 ⟨D', bcs, rfl, ⟨e', t', u', d', q', rfl, hbk⟩, hb, rfl, hD'⟩
   have hbk0 := hbk
   obtain ⟨_, _, _, _, _, _, _, _, _, _, rfl, rfl, rfl, rfl, rfl⟩ := hbk.sl
   refine jW ?_
   refine jm (Val.extractA rfl rfl) (jm (jq rfl rfl) (WL.stA 2 rfl rfl rfl rfl ?_))
   refine jf rfl (jM (jR (WX.inRet (jU ?_))))
   exact jP [2, 2, 2, 2, 2, 2, 2] (jr2 rfl (jcL 2 rfl rfl rfl) (jtI rfl)) ⟨D', _, rfl, ⟨_, _, _, _, _, rfl, hbk0⟩, hb, rfl, hD'⟩
  ·skip
   refine jS (WL.boxA rfl rfl (fun _ => ?_))
   refine jW ?_
   refine WL.alloc rfl (fun _ => ?_)
   refine jW ?_
   refine jf rfl (jM (jB (jS (jm (jn rfl) (jm (jp 8 rfl rfl rfl) (jM (WC.block (jCf rfl rfl (jCf rfl rfl (jCf rfl rfl (jCf rfl rfl (jCf rfl rfl (jB (jCf rfl rfl (jCf rfl rfl (jCf rfl rfl (jCf rfl rfl (jCf rfl rfl (jCf rfl rfl (jD (jw rfl rfl (jg rfl (jM (jF (jS (jd rfl (jm (jt 8 rfl rfl rfl) (WL.callP [1, 1, 1, 1, 1, 1, 1] rfl rfl (dSet D d c _ _ _ _ _ _ hN hD hc0 (by omega) (by omega) hs0 (by omega)) rfl ?_))))))))))))))))))))))))))))
   rintro _ I1 _ hI1 ⟨D', bcs, rfl, ⟨e', t', u', d', q', rfl, hbk⟩, hb, rfl, hD'⟩
   have hbk0 := hbk
   obtain ⟨_, _, _, _, _, _, _, _, _, _, rfl, rfl, rfl, rfl, rfl⟩ := hbk.sl
   refine jW ?_
   refine jm (Val.extractA rfl rfl) (jm (jq rfl rfl) (WL.stA 2 rfl rfl rfl rfl ?_))
   refine jf rfl (jM (jR (WX.inRet (jU ?_))))
   exact jP [2, 2, 2, 2, 2, 2, 2] (jr2 rfl (jcL 2 rfl rfl rfl) (jtI rfl)) ⟨D', _, rfl, ⟨_, _, _, _, _, rfl, hbk0⟩, hb, rfl, hD'⟩
 ·rw [show d.apply c = (d, Cm.z, 33) by rw [Dr.apply, if_neg k1, if_neg k2, if_neg k3, if_neg k4, if_neg k5, if_neg k6]]
  have hk : c.kind < 1 ∨ 12 < c.kind := by omega
  rcases hk with hk | hk
  ·skip
   refine jS (WL.boxA rfl rfl (fun _ => ?_))
   refine jW ?_
   refine WL.alloc rfl (fun _ => ?_)
   refine jW ?_
   refine jf rfl (jM (jB (jS (jm (jn rfl) (jm (jp 8 rfl rfl rfl) (jM (WC.block (jCf rfl rfl (jCf rfl rfl (jCf rfl rfl (jCf rfl rfl (jCf rfl rfl (jB (jCf rfl rfl (jCf rfl rfl (jCf rfl rfl (jCf rfl rfl (jCf rfl rfl (jCf rfl rfl (jD (jv rfl rfl (jg rfl (jM (jE (jV (WX.inNormal (jK (jm (Val.build0) ?_))))))))))))))))))))))))))))
   refine WL.stA 9 rfl rfl rfl rfl ?_
   refine jf rfl (jM (jR ?_))
   exact jP [0, 0, 0, 0, 0, 0, 0] (jr2 rfl (jcL 9 rfl rfl rfl) (jtI rfl)) ⟨D, _, rfl, Cm.z_rep _, rfl, rfl, hD⟩
  ·skip
   refine jS (WL.boxA rfl rfl (fun _ => ?_))
   refine jW ?_
   refine WL.alloc rfl (fun _ => ?_)
   refine jW ?_
   refine jf rfl (jM (jB (jS (jm (jn rfl) (jm (jp 8 rfl rfl rfl) (jM (WC.block (jCf rfl rfl (jCf rfl rfl (jCf rfl rfl (jCf rfl rfl (jCf rfl rfl (jB (jCf rfl rfl (jCf rfl rfl (jCf rfl rfl (jCf rfl rfl (jCf rfl rfl (jCf rfl rfl (jD (jv rfl rfl (jg rfl (jM (jE (jV (WX.inNormal (jK (jm (Val.build0) ?_))))))))))))))))))))))))))))
   refine WL.stA 9 rfl rfl rfl rfl ?_
   refine jf rfl (jM (jR ?_))
   exact jP [0, 0, 0, 0, 0, 0, 0] (jr2 rfl (jcL 9 rfl rfl rfl) (jtI rfl)) ⟨D, _, rfl, Cm.z_rep _, rfl, rfl, hD⟩
end Go.Proofs.YtggcpoleklcmkaaGreatDoor

namespace Go.Dc
open Go.Sl Go.Ls Go.Tr
structure Re where (id kids : Int) (grp : Bool) deriving DecidableEq
abbrev Re.cs (r : Re) : List Value := [vi r.id, vi r.kids, .bool r.grp]
def Re.rep : Rep Re := fun _ r cs => cs = r.cs ∧ I64 r.id ∧ I64 r.kids
instance : RepMono Re.rep := ⟨fun h _ => h⟩
instance : RepLen Re.rep 3 := ⟨fun h => by rw [h.1]; rfl⟩
def Ent.re (x : Ent) : Re := ⟨x.id, x.kids, x.grp⟩
def zat : Int → Atr := fun _ => Atr.z
def lst (n : Nd) : List Re := (ents zat n).map Ent.re
def lsts (l : List Nd) : List Re := (entss zat l).map Ent.re
theorem ents_re (at_ : Int → Atr) (n : Nd) : (ents at_ n).map Ent.re = lst n := by
 refine Nd.rec (motive_1 := fun n => (ents at_ n).map Ent.re = lst n) (motive_2 := fun l => (entss at_ l).map Ent.re = lsts l) ?_ ?_ ?_ n
 ·intro i g ks h
  rw [lst, ents, ents, List.map_cons, List.map_cons, h]; rfl
 ·rw [lsts, entss, entss]
 ·intro k ks h1 h2
  rw [lsts, entss, entss, List.map_append, List.map_append, h1, h2]; rfl
theorem lst_eq (n : Nd) : lst n = ⟨n.id, n.kids.length, n.grp⟩ :: lsts n.kids := by
 rw [lst, ents_eq]; rfl
theorem lsts_app (a b : List Nd) : lsts (a ++ b) = lsts a ++ lsts b := by rw [lsts, entss_app, List.map_append]; rfl
theorem lsts_one (n : Nd) : lsts [n] = lst n := by rw [lsts, entss, entss, List.append_nil]; rfl
theorem lsts_len (l : List Nd) : (lsts l).length = Nd.sizes l := by rw [lsts, List.length_map, entss_len]
theorem lst_len (n : Nd) : (lst n).length = n.size := by rw [lst, List.length_map, ents_len]
def Cm.small (c : Cm) : Prop := c.ents.length ≤ 40 ∧ c.atr.small ∧ ∀ x ∈ c.ents, x.atr.small
def smallL (l : List Cm) (m : Int) : Prop := (∀ c ∈ l, c.small) ∧ (l.length : Int) ≤ m
end Go.Dc
namespace Go.Proofs.YtggcpoleklcmkaaGreatDoor
open Go.Sl Go.Ls Go.Tr Go.Dc
theorem refs_ctr (l : List Ent) (v : Value) (I : Mem) (hv : LsAt Ent.rep I l v) (hl : l.length ≤ 1000000) : Ctr Tryz.prog 36 [v] I [] (KeepR [] fun w I' => LsAt Re.rep I' (l.map Ent.re) w) := by
 have hv0 := hv
 obtain ⟨a1, c1, rfl⟩ := hv.sl
 refine Ctr.intro Tryz.func36 rfl rfl rfl fun E F => ?_
 refine jS (jh rfl (jN (jh rfl (jM (jB (jS (jc rfl (jm (jo rfl) (ja rfl (jM (WC.block (WC.slNil 132 3 ?_))))))))))))
 refine WC.nApp ?_
 refine WC.loop (fun n ρ' I' L' => ∃ (k : Nat) (a : Option Addr) (c : Nat) (p : HP), n = l.length - k ∧ k ≤ l.length ∧ I' = I ∧ ρ' 3 = .slice a k c ∧ ρ' 6 = .slice a1 l.length c1 ∧ ρ' 7 = vi l.length ∧ ρ' 8 = vi k ∧ L' = [F, p] ∧ OwnL Re.rep 132 3 I ((l.take k).map Ent.re) (.slice a k c) p)
  l.length ⟨0, _, _, _, rfl, by omega, rfl, rfl, rfl, rfl, rfl, rfl, OwnL.nil _ _ _ _⟩ ?_
 rintro n ρ' I0 L' ⟨k, a, c, p, rfl, hk, rfl, r3, r6, r7, r8, rfl, hp⟩
 refine ju4 r8 r7 r6 r3 ?_
 by_cases hkn : k < l.length
 ·obtain ⟨b, off, cap, cs, he, ⟨t, u, d, q, rfl, hx⟩, hA⟩ := hv0.get k hkn
  cases he
  have htk : (l.take (k + 1)).map Ent.re = (l.take k).map Ent.re ++ [(l[k]).re] := by rw [List.take_succ_eq_append_getElem hkn, List.map_append]; rfl
  obtain ⟨b1, d1, b2, d2, b3, d3, b4, d4, rfl, rfl, rfl, rfl⟩ := hx.sl
  have hlk : ((l.take k).map Ent.re).length = k := by rw [List.length_map, List.length_take]; omega
  generalize l[k] = x at *
  refine jS (jy rfl rfl (jM (jB (jF (jV (jA (jB (WC.block (jS (jm (jZ rfl rfl) (jm (Val.loadI rfl (by assumption) rfl) ?_)))))))))))
  refine WL.alloc rfl (fun _ => ?_)
  refine jW ?_
  refine WL.stA 2 rfl rfl rfl rfl ?_
  refine jM (jD (jc rfl (jm (jn rfl) (jm (jp 2 rfl rfl rfl) (jm (jn rfl) (jm (jp 2 rfl rfl rfl) (jm (jn rfl) (jm (jp 2 rfl rfl rfl) (jm (Val.build (cs := (Re.cs x.re)) rfl) ?_)))))))))
  refine WL.buildSlice (by with_unfolding_all exact rfl) rfl (by with_unfolding_all exact rfl) rfl (fun _ => ?_)
  refine jW ?_
  refine WL.appOne (y := x.re) (cs := Re.cs x.re) 1 3 rfl rfl hp rfl rfl ⟨rfl, hx.id, hx.kids⟩ rfl rfl (by rfl) (by decide) (by rw [hlk]; omega) (by rw [hlk]; unfold maxLen; omega) rfl fun aa cc p' hp' => ?_
  refine WL.nSet ?_
  rw [← htk, hlk] at hp'
  rw [hlk]
  exact jh rfl (jC (WX.inNormal (jA (jD (jX rfl rfl (ja rfl (jC (WX.conv (fun w h => h.sub [0, 0] rfl) (WX.thenK (WK.round (l.length - (k + 1)) (by omega) ⟨k + 1, aa, cc, p', rfl, by omega, rfl, rfl, rfl, rfl, rfl, rfl, hp'⟩))))))))))
 ·have hkl : k = l.length := by omega
  subst hkl
  rw [List.take_length] at hp
  refine jS (jx rfl rfl (jM (jB (jE (WC.exit (WX.thenExit (WX.thenExit (WX.inHit (jK (jc rfl (jh rfl (jM (jR (WX.freezeL 1 rfl hp fun I3 hI3 hw => ?_))))))))))))))
  exact jP [] (jr1 rfl (jtS rfl)) ⟨rfl, hw⟩
theorem list_ctr (N : Nat) : ∀ (nd : Nd), nd.size ≤ N → ∀ (kv : Value) (I : Mem), nd.size ≤ 1000000 → LsAt Nd.Rp I nd.kids kv → I64 nd.id →
  Ctr Tryz.prog 72 [.agg #[vi nd.id, .bool nd.grp, kv]] I [] (KeepR [] fun v I' => LsAt Re.rep I' (lst nd) v) := by
 induction N with
 | zero => intro nd h; have := nd.size_pos; omega
 | succ N ih =>
  intro nd hs kv I hb hkv hid
  have hkv0 := hkv
  obtain ⟨ka, kc, rfl⟩ := hkv.sl
  have hsz := sizes_lt nd
  have hll := Nd.len_le_sizes nd.kids
  refine Ctr.intro Tryz.func72 rfl rfl rfl fun E F => ?_
  refine jS (WL.boxA rfl rfl (fun _ => ?_))
  refine jW ?_
  refine jh rfl (jN (jm (jn rfl) (jm (jp 1 rfl rfl rfl) (jm (jn rfl) (jm (jp 1 rfl rfl rfl) (jm (jo rfl) (jm (jn rfl) (jm (jp 1 rfl rfl rfl) (jm (Val.build (cs := (Re.cs ⟨nd.id, nd.kids.length, nd.grp⟩)) rfl) ?_)))))))))
  refine WL.buildSlice (by with_unfolding_all exact rfl) rfl (by with_unfolding_all exact rfl) rfl (fun _ => ?_)
  refine jW ?_
  refine jh rfl (jM (jB (jS (jf rfl (jM (WC.block ?_))))))
  rename_i g1 g3
  have hp0 : OwnL Re.rep 132 3 I [⟨nd.id, nd.kids.length, nd.grp⟩] (.slice (some ⟨g3, 0, none⟩) 1 1) (sl 132 3 (.slice (some ⟨g3, 0, none⟩) 1 1) 1 (Re.cs ⟨nd.id, nd.kids.length, nd.grp⟩)) :=
   ⟨[_], rfl, ⟨rfl, hid, ⟨by show (-9223372036854775808 : Int) ≤ (nd.kids.length : Int); omega, by show (nd.kids.length : Int) ≤ 9223372036854775807; omega⟩⟩, trivial⟩
  refine WC.conv (fun w h => (h.perm (pull 2 _ _ rfl)).box_sl (e := 132) (sz := 3) (n := 1) rfl (by decide)) ?_
  refine WC.loop (fun n ρ' I' L' => ∃ (k : Nat) (a : Option Addr) (c : Nat) (p : HP), n = nd.kids.length - k ∧ k ≤ nd.kids.length ∧ I.le I' ∧ ρ' 1 = ptr g1 ∧ ρ' 3 = .slice a (1 + Nd.sizes (nd.kids.take k)) c ∧ ρ' 4 = vi k ∧
    L' = [p, F, box g1 77 [vi nd.id, .bool nd.grp, .slice ka nd.kids.length kc]] ∧ OwnL Re.rep 132 3 I' (⟨nd.id, nd.kids.length, nd.grp⟩ :: lsts (nd.kids.take k)) (.slice a (1 + Nd.sizes (nd.kids.take k)) c) p)
   nd.kids.length ⟨0, _, _, _, rfl, by omega, Mem.le.refl _, rfl, rfl, rfl, rfl, hp0⟩ ?_
  rintro n ρ' I2 L' ⟨k, a, c, p, rfl, hk, hI2, q1, q3, q4, rfl, hp⟩
  refine ju3 q4 q3 q1 ?_
  by_cases hkn : k < nd.kids.length
  ·obtain ⟨bk, ofk, cak, cs, he, hR, hA⟩ := (hkv.mono hI2).get k hkn
   cases he
   obtain ⟨hik, kv1, rfl, hkv1⟩ := Nd.rep_iff.1 hR
   have hkv10 := hkv1
   obtain ⟨ka1, kc1, rfl⟩ := hkv1.sl
   have hbk := kid_sz hkn
   have hst := Nd.sizes_take nd.kids (k + 1)
   have htk : Nd.sizes (nd.kids.take (k + 1)) = Nd.sizes (nd.kids.take k) + (nd.kids[k]).size := by rw [take1 _ _ hkn, Nd.sizes_app, Nd.sizes, Nd.sizes, Nat.add_zero]
   have hen : lsts (nd.kids.take (k + 1)) = lsts (nd.kids.take k) ++ lst (nd.kids[k]) := by rw [take1 _ _ hkn, lsts_app, lsts_one]
   have hek := lst_len (nd.kids[k])
   have hets := lsts_len (nd.kids.take k)
   refine jB (jS (ja rfl (jm (jn rfl) (jm (jp 2 rfl rfl rfl) (jm (jo rfl) (jy rfl rfl (jM (jF (jV (jA (jB (WC.block (jD (jc rfl (jm (jn rfl) (jm (jp 2 rfl rfl rfl) (ja rfl (jm (jZ rfl rfl) (jm (Val.loadI rfl (by assumption) rfl) ?_)))))))))))))))))))
   refine WL.callR [] rfl rfl rfl (ih _ (kid_lt hs hkn) _ _ (by omega) hkv10 hik) rfl ?_
   rintro v I3 hI3 hv
   refine WL.appL (R := Re.rep) 0 rfl rfl (hp.mono hI3) rfl hv (fun x cs h => by rw [h.1]; rfl) (by rfl) (by decide) (by simp only [List.length_cons, hets, hek]; omega) (by simp only [List.length_cons, hets, hek]; unfold maxLen; omega) rfl fun aa cc p' hp' => ?_
   refine WL.nSet ?_
   have hlen : ((⟨nd.id, nd.kids.length, nd.grp⟩ : Re) :: lsts (nd.kids.take k) ++ lst (nd.kids[k])).length = 1 + Nd.sizes (nd.kids.take (k + 1)) := by
    simp only [List.length_append, List.length_cons, hets, hek]; omega
   rw [hlen] at hp' ⊢
   rw [List.cons_append, ← hen] at hp'
   exact jh rfl (jC (WX.inNormal (jA (jD (ja rfl (jX rfl rfl (jf rfl (jC (WX.thenK (WK.round (nd.kids.length - (k + 1)) (by omega) ⟨k + 1, aa, cc, p', rfl, by omega, hI2.trans hI3, rfl, rfl, rfl, rfl, hp'⟩))))))))))
  ·have : k = nd.kids.length := by omega
   subst this
   rw [List.take_length] at hp ⊢
   refine jB (jS (ja rfl (jm (jn rfl) (jm (jp 2 rfl rfl rfl) (jm (jo rfl) (jx rfl rfl (jM (jE (WC.exit (WX.thenExit (WX.thenExit (WX.inHit (jK (jc rfl (jh rfl (jM (jR (WX.freezeL 0 rfl hp fun I3 hI3 hv => ?_))))))))))))))))))
   have hJ := hI2.trans hI3
   refine jP [] (jr1 rfl (jtS rfl)) ?_
   refine ⟨rfl, ?_⟩
   rw [lst_eq]
   exact hv
end Go.Proofs.YtggcpoleklcmkaaGreatDoor

namespace Go.Dc
open Go.Sl Go.Ls Go.Tr
theorem tk_suf : ∀ (f : Nat), (∀ (l : List Ent) n r, tk f l = some (n, r) → ∃ p, l = p ++ r) ∧ ∀ (k : Nat) (l : List Ent) ns r, tks f k l = some (ns, r) → ∃ p, l = p ++ r := by
 intro f
 induction f with
 | zero =>
  refine ⟨fun l n r h => ?_, fun k l ns r h => ?_⟩
  ·rw [tk] at h; cases h
  ·cases k with
   | zero => rw [tks] at h; cases h; exact ⟨[], rfl⟩
   | succ k => rw [tks] at h; cases h
 | succ f ih =>
  refine ⟨fun l n r h => ?_, fun k l ns r h => ?_⟩
  ·cases l with
   | nil => rw [tk] at h; cases h
   | cons x l =>
    rw [tk] at h
    split at h
    ·cases h
    ·split at h
     ·cases h
     ·rename_i ks rest he
      cases h
      obtain ⟨p, rfl⟩ := ih.2 _ _ _ _ he
      exact ⟨x :: p, rfl⟩
  ·cases k with
   | zero => rw [tks] at h; cases h; exact ⟨[], rfl⟩
   | succ k =>
    rw [tks] at h
    split at h
    ·cases h
    ·rename_i n r1 he
     split at h
     ·cases h
     ·rename_i ns' r2 he2
      cases h
      obtain ⟨p1, rfl⟩ := ih.1 _ _ _ he
      obtain ⟨p2, rfl⟩ := ih.2 _ _ _ _ he2
      exact ⟨p1 ++ p2, by rw [List.append_assoc]⟩
theorem Tks_drop {k : Nat} {l : List Ent} {ns : List Nd} {r : List Ent} (h : Tks k l = some (ns, r)) : r = l.drop (l.length - r.length) := by
 obtain ⟨p, rfl⟩ := (tk_suf _).2 _ _ _ _ h
 rw [List.length_append, Nat.add_sub_cancel, List.drop_left]
def takeR (l : List Ent) : Nd × Int := match Tk l with
 | none => (Nd.zero, 0)
 | some (n, r) => (n, (l.length : Int) - r.length)
theorem takeR_none {l : List Ent} (h : Tk l = none) : takeR l = (Nd.zero, 0) := by rw [takeR, h]
theorem takeR_some {l : List Ent} {n : Nd} {r : List Ent} (h : Tk l = some (n, r)) : takeR l = (n, (l.length : Int) - r.length) := by rw [takeR, h]
end Go.Dc
namespace Go.Proofs.YtggcpoleklcmkaaGreatDoor
open Go.Sl Go.Ls Go.Tr Go.Dc
def TakeR (q : Nd × Int) : Value → Mem → Prop := fun r I' => ∃ kv, r = .tuple #[.agg #[vi q.1.id, .bool q.1.grp, kv], vi q.2] ∧ LsAt Nd.Rp I' q.1.kids kv ∧ I64 q.1.id
theorem take_ctr (N : Nat) : ∀ (l : List Ent), l.length ≤ N → ∀ (v : Value) (I : Mem), LsAt Re.rep I (l.map Ent.re) v → l.length ≤ 1000000 →
  Ctr Tryz.prog 37 [v] I [] (KeepR [] (TakeR (takeR l))) := by
 induction N with
 | zero =>
  intro l hl v I hv hb
  obtain rfl : l = [] := List.eq_nil_of_length_eq_zero (by omega)
  obtain ⟨a1, c1, rfl⟩ := hv.sl
  rw [takeR_none Tk_nil]
  refine Ctr.intro Tryz.func37 rfl rfl rfl fun E F => ?_
  refine jS (WL.alloc rfl (fun _ => ?_))
  refine jW ?_
  refine jf rfl (jM (jB (jS (jc rfl (jm (jo rfl) (jm (Val.eql rfl rfl rfl) ?_))))))
  refine jb rfl (jH (jH (jH (jH (jH (jk rfl (jb rfl (jH (jH (jH (jH (jH (jH (jH (jk rfl (jM (jF (jS (jm (Val.build0) ?_)))))))))))))))))))
  refine WL.stA 1 rfl rfl rfl rfl ?_
  refine jf rfl (jM (jR (jU ?_)))
  exact jP [] (jr2 rfl (jcL 1 rfl rfl rfl) (jtI rfl)) ⟨rfl, _, rfl, LsAt.nil _ _, i64z⟩
 | succ N ih =>
  intro l hlN v I hv hb
  cases l with
  | nil =>
   obtain ⟨a1, c1, rfl⟩ := hv.sl
   rw [takeR_none Tk_nil]
   refine Ctr.intro Tryz.func37 rfl rfl rfl fun E F => ?_
   refine jS (WL.alloc rfl (fun _ => ?_))
   refine jW ?_
   refine jf rfl (jM (jB (jS (jc rfl (jm (jo rfl) (jm (Val.eql rfl rfl rfl) ?_))))))
   refine jb rfl (jH (jH (jH (jH (jH (jk rfl (jb rfl (jH (jH (jH (jH (jH (jH (jH (jk rfl (jM (jF (jS (jm (Val.build0) ?_)))))))))))))))))))
   refine WL.stA 1 rfl rfl rfl rfl ?_
   refine jf rfl (jM (jR (jU ?_)))
   exact jP [] (jr2 rfl (jcL 1 rfl rfl rfl) (jtI rfl)) ⟨rfl, _, rfl, LsAt.nil _ _, i64z⟩
  | cons x r0 =>
   have hv0 := hv
   obtain ⟨b, off, cap, cs, he, ⟨rfl, hi, hk⟩, hA⟩ := hv.get 0 (by simp)
   subst he
   simp only [List.map_cons, List.getElem_cons_zero] at hA hi hk
   rw [List.length_map] at hv hv0 ⊢
   have hll : (x :: r0).length = r0.length + 1 := rfl
   rw [hll] at hv hv0 ⊢
   have hcp := hv0.cap
   rw [List.length_map, hll] at hcp
   have hA0 : At I b (off + (0 : Int).toNat * 3) [vi x.id] := hA.zero rfl
   have hA1 : At I b (off + (0 : Int).toNat * 3 + 1) [vi x.kids] := hA.one (k := 1) rfl
   have hA2 : At I b (off + (0 : Int).toNat * 3 + 2) [.bool x.grp] := hA.one (k := 2) rfl
   have hid : I64 x.id := hi
   refine Ctr.intro Tryz.func37 rfl rfl rfl fun E F => ?_
   by_cases h1 : x.kids < 0
   ·rw [takeR_none (by rw [Tk_cons, if_pos (.inl h1)])]
    refine jS (WL.alloc rfl (fun _ => ?_))
    refine jW ?_
    refine jf rfl (jM (jB (jS (jc rfl (jm (jo rfl) (jv rfl rfl (jb rfl (jG (jc rfl (jG (jm (jZ rfl rfl) (jG (jm (jn rfl) (jG (jm (Val.loadS rfl (Rd.imm (by assumption))) ?_)))))))))))))))
    refine jG (jy rfl rfl (jk rfl (jb rfl (jH (jH (jH (jH (jH (jH (jH (jk rfl (jM (jF (jS (jm (Val.build0) ?_)))))))))))))))
    refine WL.stA 1 rfl rfl rfl rfl ?_
    refine jf rfl (jM (jR (jU ?_)))
    exact jP [] (jr2 rfl (jcL 1 rfl rfl rfl) (jtI rfl)) ⟨rfl, _, rfl, LsAt.nil _ _, i64z⟩
   by_cases h2 : (r0.length : Int) + 1 < x.kids
   ·rw [takeR_none (by rw [Tk_cons, if_pos (.inr h2)])]
    refine jS (WL.alloc rfl (fun _ => ?_))
    refine jW ?_
    refine jf rfl (jM (jB (jS (jc rfl (jm (jo rfl) (jv rfl rfl (jb rfl (jG (jc rfl (jG (jm (jZ rfl rfl) (jG (jm (jn rfl) (jG (jm (Val.loadS rfl (Rd.imm (by assumption))) ?_)))))))))))))))
    refine jG (jx rfl rfl (jk rfl (jb rfl (jG (jc rfl (jG (jm (jZ rfl rfl) (jG (jm (jn rfl) (jG (jm (Val.loadS rfl (Rd.imm (by assumption))) ?_)))))))))))
    refine jG (jc rfl (jG (jm (jo rfl) (jG (jO rfl rfl (jk rfl (jM (jF (jS (jm (Val.build0) ?_))))))))))
    refine WL.stA 1 rfl rfl rfl rfl ?_
    refine jf rfl (jM (jR (jU ?_)))
    exact jP [] (jr2 rfl (jcL 1 rfl rfl rfl) (jtI rfl)) ⟨rfl, _, rfl, LsAt.nil _ _, i64z⟩
   have htk : Tk (x :: r0) = match Tks x.kids.toNat r0 with
    | none => none
    | some (ks, rest) => some (.mk x.id x.grp ks, rest) := by rw [Tk_cons, if_neg (by omega)]; rfl
   obtain ⟨m, hm⟩ : ∃ m : Nat, x.kids = m := ⟨x.kids.toNat, by omega⟩
   rw [hm] at hA1 h1 h2 htk
   rw [Int.toNat_natCast] at htk
   refine jS (WL.alloc rfl (fun _ => ?_))
   refine jW ?_
   refine jf rfl (jM (jB (jS (jc rfl (jm (jo rfl) (jv rfl rfl (jb rfl (jG (jc rfl (jG (jm (jZ rfl rfl) (jG (jm (jn rfl) (jG (jm (Val.loadS rfl (Rd.imm (by assumption))) ?_)))))))))))))))
   refine jG (jx rfl rfl (jk rfl (jb rfl (jG (jc rfl (jG (jm (jZ rfl rfl) (jG (jm (jn rfl) (jG (jm (Val.loadS rfl (Rd.imm (by assumption))) ?_)))))))))))
   refine jG (jc rfl (jG (jm (jo rfl) (jG (jL rfl rfl (jk rfl (jM (jE (jV (jA (jB (j8 999 [] rfl (jT 0 rfl (Val.moveS rfl) (jT 1 rfl (jZ rfl rfl) (jT 2 rfl (jn rfl) (jT 3 rfl (Val.loadS rfl (Rd.imm hA0)) ?_))))))))))))))))
   refine jT 4 rfl (Val.moveS rfl) (jT 5 rfl (jZ rfl rfl) (jT 6 rfl (jn rfl) (jT 7 rfl (Val.loadS rfl (Rd.imm hA2)) ?_)))
   refine jT 8 rfl (Val.build (cs := [vi x.id, .bool x.grp, .slice none 0 0]) rfl) ?_
   refine j5 9 rfl (WL.alloc rfl (fun _ => ?_))
   refine jW ?_
   refine jC (j7 [] rfl (j5 10 rfl (WL.stA 2 rfl rfl rfl rfl ?_)))
   refine jC (j7 [] rfl (j6 (jK (jf rfl (jM (jB (jS (jf rfl (jM (WC.block ?_))))))))))
   rename_i g2 g4
   refine WC.slNil 77 3 ?_
   refine WC.nApp ?_
   refine WC.loop (fun n ρ' I' L' => ∃ (k : Nat) (ns : List Nd) (rest : List Ent) (a : Option Addr) (c : Nat) (p : HP), n = m - k ∧ k ≤ m ∧ I.le I' ∧ ρ' 0 = .slice (some ⟨b, off, none⟩) (r0.length + 1) cap ∧ ρ' 2 = ptr g2 ∧ ρ' 4 = ptr g4 ∧ ρ' 5 = vi ((r0.length + 1 - rest.length : Nat) : Int) ∧ ρ' 6 = vi k ∧
     L' = [F, box g2 77 [vi 0, .bool false, .slice none 0 0], box g4 77 [vi x.id, .bool x.grp, .slice a ns.length c], p] ∧ OwnL Nd.Rp 77 3 I' ns (.slice a ns.length c) p ∧
     Tks k r0 = some (ns, rest) ∧ ns.length = k)
    m ⟨0, [], r0, _, _, _, rfl, by omega, Mem.le.refl _, rfl, rfl, rfl, by rw [Nat.add_sub_cancel_left]; rfl, rfl, rfl, OwnL.nil _ _ _ _, Tks_zero _, rfl⟩ ?_
   rintro n ρ' I0 L' ⟨k, ns, rest, a, c, p, rfl, hkm, hI, q0, q2, q4, q5, q6, rfl, hp, ht, hnl⟩
   refine ju5 q6 q5 q4 q2 q0 ?_
   have hrl := Tks_le ht
   have hA1' := hA1.mono hI
   by_cases hkn : k < m
   ·have hrd : rest = (x :: r0).drop (r0.length + 1 - rest.length) := by
     have := Tks_drop ht
     rw [show r0.length + 1 - rest.length = (r0.length - rest.length) + 1 by omega, List.drop_succ_cons]
     exact this
    have hvr := (hv0.mono hI).dropG (r0.length + 1 - rest.length) (by rw [List.length_map, hll]; omega)
    rw [← List.map_drop, ← hrd, List.length_map, hll] at hvr
    have hrr : r0.length + 1 - (r0.length + 1 - rest.length) = rest.length := by omega
    rw [hrr] at hvr
    refine jB (jS (ja rfl (jc rfl (jm (jZ rfl rfl) (jm (jn rfl) (jm (Val.loadS rfl (Rd.imm (by assumption))) ?_))))))
    refine jy rfl rfl (jM (jF (jV (jA (jB (WC.block (jS (jc rfl (ja rfl (jm (Val.sliceFromG (m := r0.length + 1 - rest.length) rfl rfl rfl (by omega) (by omega)) ?_))))))))))
    rw [hrr]
    skip
    refine WL.callR [] rfl rfl rfl (ih rest (by omega) _ _ hvr (by omega)) rfl ?_
    rintro _ I2 hI2 ⟨kv, rfl, hkv, hid1⟩
    have hkv0 := hkv
    obtain ⟨ka, kc, rfl⟩ := hkv.sl
    cases hr : Tk rest with
    | none =>
     have hnone : Tk (x :: r0) = none := by
      rw [htk, show m = k + (m - k - 1 + 1) by omega, Tks_add, ht]
      simp only [Tks_succ, hr]
     rw [takeR_none hnone]
     rw [takeR_none hr]
     have hJ := hI.trans hI2
     refine je rfl (jm (Val.extractA rfl rfl) (jm (jq rfl rfl) (WL.alloc rfl (fun _ => ?_))))
     refine jW ?_
     refine WL.stA 4 rfl rfl rfl rfl ?_
     refine jf rfl (jM (jB (jS (ja rfl (jw rfl rfl (jM (jF (jS (jm (Val.build0) ?_)))))))))
     refine WL.stA 1 rfl rfl rfl rfl ?_
     refine jf rfl (jM (jR (jU (WX.inRet (jU (jU (WX.inRet (jU ?_))))))))
     exact jP [] (jr2 rfl (jcL 1 rfl rfl rfl) (jtI rfl)) ⟨rfl, _, rfl, LsAt.nil _ _, i64z⟩
    | some q =>
     obtain ⟨n1, r1⟩ := q
     have hr1 := Tk_le hr
     rw [takeR_some hr] at hkv0 hid1 ⊢
     have hsz : (rest.length : Int) - r1.length = ((rest.length - r1.length : Nat) : Int) := by omega
     simp only [hsz] at hkv0 hid1 ⊢
     have ht1 : Tks (k + 1) r0 = some (ns ++ [n1], r1) := by
      rw [Tks_add, ht]
      simp only [Tks_succ, hr, Tks_zero]
     refine je rfl (jm (Val.extractA rfl rfl) (jm (jq rfl rfl) (WL.alloc rfl (fun _ => ?_))))
     refine jW ?_
     refine WL.stA 4 rfl rfl rfl rfl ?_
     refine jf rfl (jM (jB (jS (ja rfl (jv rfl rfl (jM (jE (jV (jK (jm (jn rfl) (jm (jp 2 rfl rfl rfl) (jm (jt 4 rfl rfl rfl) (WL.buildSlice (by with_unfolding_all exact rfl) rfl (by with_unfolding_all exact rfl) rfl (fun _ => ?_))))))))))))))
     refine jW ?_
     refine WL.appOne (y := n1) (cs := [vi n1.id, .bool n1.grp, .slice ka n1.kids.length kc]) 3 5 rfl rfl (hp.mono hI2) rfl rfl (Nd.rep_iff.2 ⟨hid1, _, rfl, hkv0⟩) rfl rfl (by rfl) (by decide) (by omega) (by unfold maxLen; omega) rfl fun aa cc p' hp' => ?_
     refine WL.nSet ?_
     have hnl1 : (ns ++ [n1]).length = ns.length + 1 := by rw [List.length_append]; rfl
     refine jm (jn rfl) (WL.stS 2 rfl rfl rfl rfl ?_)
     refine jM (jD (ja rfl (ja rfl (jX rfl rfl (jf rfl (jC (WX.inNormal (jA (jD (ja rfl (jX rfl rfl (jf rfl (jC (WX.conv (fun w h => h.sub [0, 0, 0, 0] rfl) ?_))))))))))))))
     refine WX.thenK (WK.round (m - (k + 1)) (by omega) ⟨k + 1, ns ++ [n1], r1, aa, cc, p', rfl, by omega, hI.trans hI2, rfl, rfl, rfl, ?_, rfl, by rw [hnl1], by rw [hnl1]; exact hp', ht1, by rw [hnl1, hnl]⟩)
     show vi _ = vi _
     congr 1
     omega
   ·have : k = m := by omega
    subst this
    have hsome : Tk (x :: r0) = some (.mk x.id x.grp ns, rest) := by rw [htk, ht]
    rw [takeR_some hsome]
    have hsz : ((x :: r0).length : Int) - rest.length = ((r0.length + 1 - rest.length : Nat) : Int) := by rw [hll]; omega
    rw [hsz]
    refine jB (jS (ja rfl (jc rfl (jm (jZ rfl rfl) (jm (jn rfl) (jm (Val.loadS rfl (Rd.imm (by assumption))) ?_))))))
    refine jx rfl rfl (jM (jE (WC.exit (WX.thenExit (WX.thenExit (WX.inHit (jK (jm (jt 2 rfl rfl rfl) (ja rfl (WL.stA 1 rfl rfl rfl rfl ?_))))))))))
    refine jf rfl (jM (jR (WX.freezeL 3 rfl hp fun I3 hI3 hw => ?_)))
    have hJ := hI.trans hI3
    exact jP [] (jr2 rfl (jcL 1 rfl rfl rfl) (jtI rfl)) ⟨rfl, _, rfl, hw, hid⟩
attribute [local irreducible] WC WL WX WK WA WAK Val Ctr RunRes ResIs Rd At sl box pt Exit.then Exit.inBlock bodyPost Code.wp wpList
theorem small_ctr (l : List Cm) (m : Int) (v : Value) (I : Mem) (hv : LsAt Cm.rep I l v) : Ctr Tryz.prog 22 [v, vi m] I [] (Still I (EqP (smallL l m))) := by
 have hv0 := hv
 have hle := hv.le
 unfold maxLen at hle
 obtain ⟨a1, c1, rfl⟩ := hv.sl
 refine Ctr.intro Tryz.func22 rfl rfl rfl fun E F => ?_
 refine jS (jg rfl (jM (jB (jS (jc rfl (jm (jo rfl) (ja rfl (jM (WC.block ?_)))))))))
 refine WC.loop (fun n ρ' I' L' => ∃ k : Nat, n = l.length - k ∧ k ≤ l.length ∧ I' = I ∧ ρ' 0 = .slice a1 l.length c1 ∧ ρ' 1 = vi m ∧ ρ' 9 = .slice a1 l.length c1 ∧ ρ' 10 = vi l.length ∧ ρ' 11 = vi k ∧ L' = [F] ∧ ∀ c ∈ l.take k, c.small)
  l.length ⟨0, rfl, by omega, rfl, rfl, rfl, rfl, rfl, rfl, rfl, by simp⟩ ?_
 rintro n ρ' I0 L' ⟨k, rfl, hk, rfl, r0, r1, r9, r10, r11, rfl, hall⟩
 refine ju5 r11 r10 r9 r1 r0 ?_
 by_cases hkn : k < l.length
 ·obtain ⟨b, off, cap, cs, he, ⟨e, t, u, d, q, rfl, hc⟩, hA⟩ := hv0.get k hkn
  cases he
  have hmem := List.getElem_mem hkn
  have htk : l.take (k + 1) = l.take k ++ [l[k]] := by rw [List.take_succ_eq_append_getElem hkn]
  have hca := hc.atr
  have hce := hc.ents
  have hcl := hce.le
  unfold maxLen at hcl
  obtain ⟨x0, y0, x1, y1, x2, y2, x3, y3, x4, y4, rfl, rfl, rfl, rfl, rfl⟩ := hc.sl
  generalize l[k] = c at *
  by_cases h40 : 40 < c.ents.length
  ·skip
   refine jS (jy rfl rfl (jM (jB (jF (jV (jA (jB (WC.block (jS (jm (jZ rfl rfl) (jm (Val.loadI rfl (by assumption) rfl) ?_)))))))))))
   refine WL.alloc rfl (fun _ => ?_)
   refine jW ?_
   refine WL.stA 1 rfl rfl rfl rfl ?_
   refine jM (jB (jS (jm (jn rfl) (jm (jp 1 rfl rfl rfl) (jm (jo rfl) (jO rfl rfl (jb rfl (jH (jH (jH (jH (jk rfl (jM (jF (jS (jg rfl (jM (jR (jU (WX.inRet (jU (jU (WX.inRet (jU ?_))))))))))))))))))))))))
   exact jP [] (jr1 rfl (jtB rfl)) ⟨rfl, rfl, EqP.f fun e => by have := (e.1 c hmem).1; omega⟩
  refine jS (jy rfl rfl (jM (jB (jF (jV (jA (jB (WC.block (jS (jm (jZ rfl rfl) (jm (Val.loadI rfl (by assumption) rfl) ?_)))))))))))
  refine WL.alloc rfl (fun _ => ?_)
  refine jW ?_
  refine WL.stA 1 rfl rfl rfl rfl ?_
  refine jM (jB (jS (jm (jn rfl) (jm (jp 1 rfl rfl rfl) (jm (jo rfl) (jL rfl rfl (jb rfl (jG (jm (jn rfl) (jG (jm (jt 1 rfl rfl rfl) (jG ?_))))))))))))
  refine WL.callE rfl rfl (smallAttr_ctr c.atr _ _ _ _ _ hca) rfl (fun hs => ?_) (fun hs => ?_)
  case refine_2 =>
   refine jG (jl rfl (jk rfl (jM (jF (jS (jg rfl (jM (jR (jU (WX.inRet (jU (jU (WX.inRet (jU ?_))))))))))))))
   exact jP [] (jr1 rfl (jtB rfl)) ⟨rfl, rfl, EqP.f fun e => hs (e.1 c hmem).2.1⟩
  refine jG (jl rfl (jk rfl (jM (jE (jV (jK (jm (jn rfl) (jm (jp 1 rfl rfl rfl) (jm (jo rfl) (ja rfl (jM (WC.block (WC.conv (fun w h => h.sub [0] rfl) ?_)))))))))))))
  refine WC.loop (fun n ρ' I' L' => ∃ j : Nat, n = c.ents.length - j ∧ j ≤ c.ents.length ∧ I' = I0 ∧ ρ' 0 = .slice (some ⟨b, off, none⟩) l.length c1 ∧ ρ' 1 = vi m ∧ ρ' 9 = .slice (some ⟨b, off, none⟩) l.length c1 ∧ ρ' 10 = vi l.length ∧ ρ' 11 = vi k ∧ ρ' 26 = .slice x0 c.ents.length y0 ∧ ρ' 27 = vi c.ents.length ∧ ρ' 28 = vi j ∧ L' = [F] ∧ ∀ x ∈ c.ents.take j, x.atr.small)
   c.ents.length ⟨0, rfl, by omega, rfl, rfl, rfl, rfl, rfl, rfl, rfl, rfl, rfl, rfl, by simp⟩ ?_
  rintro n ρ' I1 L' ⟨j, rfl, hj, rfl, r0, r1, r9, r10, r11, r26, r27, r28, rfl, hallj⟩
  refine ju8 r28 r27 r26 r11 r10 r9 r1 r0 ?_
  by_cases hjn : j < c.ents.length
  ·obtain ⟨b5, off5, cap5, cs5, he5, ⟨t5, u5, d5, q5, rfl, hx⟩, hA5⟩ := hce.get j hjn
   cases he5
   have hmx := List.getElem_mem hjn
   have htj : c.ents.take (j + 1) = c.ents.take j ++ [c.ents[j]] := by rw [List.take_succ_eq_append_getElem hjn]
   have hxa := hx.atr
   obtain ⟨p1, o1, p2, o2, p3, o3, p4, o4, rfl, rfl, rfl, rfl⟩ := hx.sl
   generalize c.ents[j] = x at *
   refine jS (jy rfl rfl (jM (jB (jF (jV (jA (jB (WC.block (jS (jm (jZ rfl rfl) (jm (Val.loadI rfl (by assumption) rfl) ?_)))))))))))
   refine WL.alloc rfl (fun _ => ?_)
   refine jW ?_
   refine WL.stA 1 rfl rfl rfl rfl ?_
   refine jN (jm (jn rfl) (jm (jt 1 rfl rfl rfl) ?_))
   refine WL.callE rfl rfl (smallAttr_ctr x.atr _ _ _ _ _ hxa) rfl (fun hs2 => ?_) (fun hs2 => ?_)
   case refine_2 =>
    refine jl rfl (jM (jF (jS (jg rfl (jM (jR (WX.inRet (jU (jU (WX.inRet (WX.inRet (jU (jU (WX.inRet (jU ?_)))))))))))))))
    exact jP [] (jr1 rfl (jtB rfl)) ⟨rfl, rfl, EqP.f fun e => hs2 ((e.1 c hmem).2.2 x hmx)⟩
   refine jl rfl (jM (jE (jV (WX.inNormal (jA (jD (jX rfl rfl (ja rfl (jC (WX.conv (fun w h => h.sub [0] rfl) ?_))))))))))
   refine WX.thenK (WK.round (c.ents.length - (j + 1)) (by omega) ⟨j + 1, rfl, by omega, rfl, rfl, rfl, rfl, rfl, rfl, rfl, rfl, rfl, rfl, ?_⟩)
   rw [htj]
   intro y hy
   rcases List.mem_append.1 hy with hy | hy
   ·exact hallj y hy
   ·rw [List.mem_singleton.1 hy]; exact hs2
  ·have hje : j = c.ents.length := by omega
   subst hje
   rw [List.take_length] at hallj
   refine jS (jx rfl rfl (jM (jB (jE (WC.exit (WX.thenExit (WX.thenExit (WX.inHit (WX.inNormal (jA (jD (jX rfl rfl (ja rfl (jC ?_))))))))))))))
   refine WX.thenK (WK.round (l.length - (k + 1)) (by omega) ⟨k + 1, rfl, by omega, rfl, rfl, rfl, rfl, rfl, rfl, rfl, ?_⟩)
   rw [htk]
   intro y hy
   rcases List.mem_append.1 hy with hy | hy
   ·exact hall y hy
   ·rw [List.mem_singleton.1 hy]; exact ⟨by omega, hs, hallj⟩
 ·have hkl : k = l.length := by omega
  subst hkl
  rw [List.take_length] at hall
  by_cases hm : (l.length : Int) ≤ m
  ·skip
   refine jS (jx rfl rfl (jM (jB (jE (WC.exit (WX.thenExit (WX.thenExit (WX.inHit (jK (jc rfl (jm (jo rfl) (ja rfl (jm (Val.leq rfl rfl (decide_eq_true (by omega))) ?_)))))))))))))
   refine jg rfl (jM (jR ?_))
   exact jP [] (jr1 rfl (jtB rfl)) ⟨rfl, rfl, EqP.t ⟨hall, hm⟩⟩
  ·skip
   refine jS (jx rfl rfl (jM (jB (jE (WC.exit (WX.thenExit (WX.thenExit (WX.inHit (jK (jc rfl (jm (jo rfl) (ja rfl (jm (Val.leq rfl rfl (decide_eq_false (by omega))) ?_)))))))))))))
   refine jg rfl (jM (jR ?_))
   exact jP [] (jr1 rfl (jtB rfl)) ⟨rfl, rfl, EqP.f fun e => hm e.2⟩
theorem dGet (at_ : Int → Option Atr) (f : Int → Option Value) (b tb mb cnt : Nat) (s i : Int) (I : Mem) (hat : AtRep I at_ f) (hlim : ∀ i a, at_ i = some a → a.lim) :
  Ctr Tryz.prog 73 [ptr b, vi i] I [docBox b tb mb s, mp mb f cnt] (KeepR [docBox b tb mb s, mp mb f cnt] fun r I' => ∃ acs, r = .tuple #[.agg acs.toArray, .bool (at_ i).isSome] ∧ Atr.rep I' ((at_ i).getD Atr.z) acs) := by
 obtain ⟨ta, ua, da, qa, hv, haa⟩ := hat.get i
 have hsm := hat.some i
 have hla : ((at_ i).getD Atr.z).lim := by
  cases h : at_ i with
  | none => exact ⟨by decide, by decide, by decide, by decide⟩
  | some a => exact hlim _ _ h
 generalize (at_ i).getD Atr.z = a at hv haa hla ⊢
 have haa0 := haa
 obtain ⟨a1, c1, a2, c2, a3, c3, a4, c4, rfl, rfl, rfl, rfl⟩ := haa.sl
 refine Ctr.intro Tryz.func73 rfl rfl rfl fun E F => ?_
 refine jS (WL.alloc rfl (fun _ => ?_))
 refine jW ?_
 refine jg rfl (jN (jd rfl (jm (jr rfl) (jm (jn rfl) (jm (jp 1 rfl rfl rfl) (ja rfl (jm (Val.lookup2v 2 hv hsm rfl rfl rfl) ?_)))))))
 refine je rfl (jm (Val.extractA rfl rfl) (jm (Val.extractB rfl rfl) (WL.alloc rfl (fun _ => ?_))))
 refine jW ?_
 refine WL.stA 4 rfl rfl rfl rfl ?_
 refine jg rfl (jN (jm (jt 4 rfl rfl rfl) (WL.callR [] rfl rfl rfl (copied_ctr a _ _ _ _ _ haa0 hla) rfl ?_)))
 rintro _ I1 hI1 ⟨t1, u1, d1, q1, rfl, h1⟩
 have h10 := h1
 obtain ⟨b1, r1, b2, r2, b3, r3, b4, r4, rfl, rfl, rfl, rfl⟩ := h1.sl
 refine jb rfl (WL.stA 3 rfl rfl rfl rfl ?_)
 refine jg rfl (jM (jR ?_))
 exact jP [0, 0] (jr2 rfl (jcL 3 rfl rfl rfl) (jtB rfl)) ⟨rfl, _, rfl, _, _, _, _, rfl, h10⟩
theorem dNodes (b tb mb : Nat) (s : Int) (I : Mem) : Ctr Tryz.prog 74 [ptr b] I [docBox b tb mb s] (Keep I [docBox b tb mb s] fun r => r = vi s) := by
 refine Ctr.intro Tryz.func74 rfl rfl rfl fun E F => ?_
 refine jS (jf rfl (jN (jd rfl (jm (jr rfl) (jm (jn rfl) (jm (jp 1 rfl rfl rfl) (jf rfl (jM (jR ?_)))))))))
 exact jP [0] (jr1 rfl (jtI rfl)) ⟨rfl, rfl, rfl⟩
end Go.Proofs.YtggcpoleklcmkaaGreatDoor
