/-
  Drawings, the walks: wrap.
-/
import Derived.Test.YtggcpoleklcmkaaGreatDoorZ6
import Derived.Test.YtggcpoleklcmkaaGreatDoorX5
import Derived.Test.YtggcpoleklcmkaaGreatDoorX3
import Derived.Test.YtggcpoleklcmkaaGreatDoorX2
namespace Go.Dc
open Go.Sl Go.Ls Go.Tr
theorem Cm.z_at (I : Mem) : Cm.z.at_ I (.slice none 0 0) (.slice none 0 0) (.slice none 0 0) (.slice none 0 0) (.slice none 0 0) := ⟨i64z, i64z, i64z, i64z, i64z, i64z, i64z, LsAt.nil _ _, Atr.z_at I, Sg.z_ok, Pt.z_ok⟩
theorem Cm.z_rep (I : Mem) : Cm.rep I Cm.z (Cm.z.cs (.slice none 0 0) (.slice none 0 0) (.slice none 0 0) (.slice none 0 0) (.slice none 0 0)) := ⟨_, _, _, _, _, rfl, Cm.z_at I⟩
theorem Cm.id_rep (I : Mem) {k i : Int} (hk : I64 k) (hi : I64 i) : Cm.rep I { Cm.z with kind := k, id := i } (Cm.cs { Cm.z with kind := k, id := i } (.slice none 0 0) (.slice none 0 0) (.slice none 0 0) (.slice none 0 0) (.slice none 0 0)) := ⟨_, _, _, _, _, rfl, hk, hi, i64z, i64z, i64z, i64z, i64z, LsAt.nil _ _, Atr.z_at I, Sg.z_ok, Pt.z_ok⟩
theorem AtRep.up {I : Mem} {at_ : Int → Option Atr} {f : Int → Option Value} (h : AtRep I at_ f) {a : Atr} {v : Value} (ha : AtrV a v I) (j : Int) : AtRep I (upAt at_ j a) (Sl.put f j v) := fun i => by
  rw [upAt, Sl.put]
  by_cases hi : i = j
  · rw [if_pos hi, if_pos hi]
    exact .inr ⟨a, v, rfl, rfl, ha⟩
  · rw [if_neg hi, if_neg hi]
    exact h i
theorem lim_up {at_ : Int → Option Atr} (h : ∀ i a, at_ i = some a → a.lim) {b : Atr} (hb : b.lim) (j : Int) : ∀ i a, upAt at_ j b i = some a → a.lim := fun i a ha => by
  rw [upAt] at ha
  split at ha
  · cases ha; exact hb
  · exact h i a ha
end Go.Dc
namespace Go.Proofs.YtggcpoleklcmkaaGreatDoor
open Go.Sl Go.Ls Go.Tr Go.Dc
set_option maxRecDepth 100000
set_option maxHeartbeats 4000000
set_option linter.unusedVariables false
set_option linter.unusedSimpArgs false
attribute [local irreducible] WC WL WX WK WA WAK Val Ctr RunRes ResIs Rd At sl box pt Exit.then Exit.inBlock bodyPost Code.wp wpList
/-- What a command answers, and makes of a drawing. -/
def ApplyR (q : Dr × Cm × Int) (D : Dm) : Value → Mem → List HP → Prop := fun v I' L' => ∃ (D' : Dm) (bcs : List Value), v = .tuple #[.agg bcs.toArray, vi q.2.2] ∧ Cm.rep I' q.2.1 bcs ∧ D'.b = D.b ∧ L' = D'.hp ∧ DAbs I' D' q.1
theorem dWrap (D : Dm) (d : Dr) (c : Cm) (e t u dd q : Value) (I : Mem) (hN : NeedAt I) (hD : DAbs I D d) (hc : c.at_ I e t u dd q) : Ctr Tryz.prog 69 [ptr D.b, .agg (c.cs e t u dd q).toArray] I D.hp (ApplyR (d.wrap c) D) := by
  have hca := hc.atr
  obtain ⟨a0, c0, a1, c1, a2, c2, a3, c3, a4, c4, rfl, rfl, rfl, rfl, rfl⟩ := hc.sl
  refine Ctr.intro Tryz.func69 rfl rfl rfl fun E F => ?_
  refine WC.seq ?_
  refine WC.region ?_
  (refine WL.boxA rfl rfl ?_; intro _)
  refine WL.nApp ?_
  (refine WL.alloc rfl ?_; intro _)
  refine WL.nApp ?_
  refine WL.val (Val.assignI rfl) rfl ?_
  refine WL.nil ?_
  refine WX.thenC ?_
  refine WC.seq ?_
  refine WC.seq ?_
  refine WC.region ?_
  refine WL.val (Val.fldAddr rfl) rfl ?_
  refine WL.val (Val.ldO 8 rfl rfl rfl) rfl ?_
  refine WL.callS rfl rfl (atr_ctr c.atr true _ _ _ _ _ hN hca) rfl ?_
  rintro _ rfl
  by_cases h1 : c.atr.check true = 0
  case neg =>
    rw [show d.wrap c = (d, Cm.z, c.atr.check true) by rw [Dr.wrap, if_pos h1]]
    refine WL.val (Val.assignI rfl) rfl ?_
    refine WL.nil ?_
    refine WX.thenC ?_
    refine WC.seq ?_
    refine WC.region ?_
    refine WL.val (Val.moveI rfl) rfl ?_
    refine WL.val (Val.neq rfl rfl (bne_iff_ne.2 (by omega))) rfl ?_
    refine WL.nil ?_
    refine WX.thenC ?_
    refine WC.condT rfl ?_
    refine WC.seq ?_
    refine WC.region ?_
    refine WL.val (Val.build0) rfl ?_
    refine WL.val (Val.moveI rfl) rfl ?_
    refine WL.stA 9 rfl rfl rfl rfl ?_
    refine WL.val (Val.assignI rfl) rfl ?_
    refine WL.nil ?_
    refine WX.thenC ?_
    refine WC.ret ?_
    refine WX.thenRet ?_
    apply WX.doneP (ks := [0, 0, 0, 0, 0, 0, 0])
    case hres => exact RunRes.r2 rfl (ResIs.cellL 9 rfl rfl rfl) (ResIs.tmpI rfl)
    case hI => first | exact Mem.le.refl _ | assumption
    exact ⟨D, _, rfl, Cm.z_rep _, rfl, rfl, hD⟩
  have hw : d.wrap c = if (Nd.wrap d.top c.id c.parent c.index c.count).2 ≠ 0 then (d, Cm.z, (Nd.wrap d.top c.id c.parent c.index c.count).2) else (⟨(Nd.wrap d.top c.id c.parent c.index c.count).1, upAt d.at_ c.id c.atr, d.segs⟩, { Cm.z with kind := 5, id := c.id }, 0) := by
    rw [Dr.wrap, if_neg (fun e => e h1)]
  rw [hw]
  clear hw
  refine WL.val (Val.assignI rfl) rfl ?_
  refine WL.nil ?_
  refine WX.thenC ?_
  refine WC.seq ?_
  refine WC.region ?_
  refine WL.val (Val.moveI rfl) rfl ?_
  refine WL.val (Val.neq rfl rfl (bne_eq_false_iff_eq.2 (by omega))) rfl ?_
  refine WL.nil ?_
  refine WX.thenC ?_
  refine WC.condF rfl ?_
  refine WC.skip ?_
  refine WX.thenC ?_
  refine WC.seq ?_
  refine WC.seq ?_
  refine WC.drawK 999 I [1, 7] rfl (by kernel_rfl) rfl rfl ?_
  refine WA.take 0 rfl (by kernel_rfl) rfl (fun w h => (h.sub [1, 7] rfl)) (Val.moveP rfl) rfl ?_
  refine WA.take 1 rfl (by kernel_rfl) rfl (fun w h => (h.sub [1, 7] rfl)) (Val.nilCheckP rfl) rfl ?_
  refine WA.take 2 rfl (by kernel_rfl) rfl (fun w h => (h.sub [1, 7] rfl)) (Val.fldAddr rfl) rfl ?_
  refine WA.take 3 rfl (by kernel_rfl) rfl (fun w h => (h.sub [1, 7] rfl)) (Val.loadS rfl (Rd.own1 0 rfl rfl)) rfl ?_
  refine WA.take 4 rfl (by kernel_rfl) rfl (fun w h => (h.sub [1, 7] rfl)) (Val.fldAddr rfl) rfl ?_
  refine WA.take 5 rfl (by kernel_rfl) rfl (fun w h => (h.sub [1, 7] rfl)) (Val.loadS rfl (Rd.own1 1 rfl rfl)) rfl ?_
  refine WA.take 6 rfl (by kernel_rfl) rfl (fun w h => (h.sub [1, 7] rfl)) (Val.fldAddr rfl) rfl ?_
  refine WA.take 7 rfl (by kernel_rfl) rfl (fun w h => (h.sub [1, 7] rfl)) (Val.loadS rfl (Rd.own1 1 rfl rfl)) rfl ?_
  refine WA.take 8 rfl (by kernel_rfl) rfl (fun w h => (h.sub [1, 7] rfl)) (Val.fldAddr rfl) rfl ?_
  refine WA.take 9 rfl (by kernel_rfl) rfl (fun w h => (h.sub [1, 7] rfl)) (Val.loadS rfl (Rd.own1 1 rfl rfl)) rfl ?_
  refine WA.take 10 rfl (by kernel_rfl) rfl (fun w h => (h.sub [1, 7] rfl)) (Val.fldAddr rfl) rfl ?_
  refine WA.take 11 rfl (by kernel_rfl) rfl (fun w h => (h.sub [1, 7] rfl)) (Val.loadS rfl (Rd.own1 1 rfl rfl)) rfl ?_
  refine WA.eff1 (i := 12) (by kernel_rfl) rfl rfl ?_
  refine WL.callP [3, 3, 3, 3, 3] rfl rfl (tWrap D.A d.top hD.abs c.id c.parent c.index c.count _ hc.id hc.count) rfl ?_
  rintro _ I1 _ hI1 ⟨rfl, B, hb, rfl, hB⟩
  refine WL.nApp ?_
  refine WL.nil ?_
  refine WK.anyStep (fun w h => (h.sub [1, 2] rfl).less (hI1)) ?_
  refine WA.take 13 rfl (by kernel_rfl) rfl (fun w h => (h.sub [1, 2] rfl).less (hI1)) (Val.assignI rfl) rfl ?_
  refine WA.done (by kernel_rfl) ?_
  rw [← hb]
  by_cases h2 : (Nd.wrap d.top c.id c.parent c.index c.count).2 = 0
  case neg =>
    rw [if_pos h2]
    refine WX.thenC ?_
    refine WC.seq ?_
    refine WC.region ?_
    refine WL.val (Val.moveI rfl) rfl ?_
    refine WL.val (Val.neq rfl rfl (bne_iff_ne.2 (by omega))) rfl ?_
    refine WL.nil ?_
    refine WX.thenC ?_
    refine WC.condT rfl ?_
    refine WC.seq ?_
    refine WC.region ?_
    refine WL.val (Val.build0) rfl ?_
    refine WL.val (Val.moveI rfl) rfl ?_
    refine WL.stA 4 rfl rfl rfl rfl ?_
    refine WL.val (Val.assignI rfl) rfl ?_
    refine WL.nil ?_
    refine WX.thenC ?_
    refine WC.ret ?_
    refine WX.thenRet ?_
    apply WX.doneP (ks := [0, 0, 2, 2, 2, 2, 2])
    case hres => exact RunRes.r2 rfl (ResIs.cellL 4 rfl rfl rfl) (ResIs.tmpI rfl)
    case hI => first | exact Mem.le.refl _ | assumption
    rw [Nd.wrap_err h2] at hB
    exact ⟨{ D with A := B }, _, rfl, Cm.z_rep _, rfl, rfl, ⟨hB, hD.rep.mono hI1, hD.segs, hD.dom, hD.lim⟩⟩
  rw [if_neg (fun e => e h2)]
  refine WX.thenC ?_
  refine WC.seq ?_
  refine WC.region ?_
  refine WL.val (Val.moveI rfl) rfl ?_
  refine WL.val (Val.neq rfl rfl (bne_eq_false_iff_eq.2 (by omega))) rfl ?_
  refine WL.nil ?_
  refine WX.thenC ?_
  refine WC.condF rfl ?_
  refine WC.skip ?_
  refine WX.thenC ?_
  refine WC.seq ?_
  have hlim := Atr.check_lim h1
  refine WC.drawK 999 I1 [1, 2] rfl (by kernel_rfl) rfl rfl ?_
  refine WA.take 0 rfl (by kernel_rfl) rfl (fun w h => (h.sub [1, 2] rfl)) (Val.moveP rfl) rfl ?_
  refine WA.take 1 rfl (by kernel_rfl) rfl (fun w h => (h.sub [1, 2] rfl)) (Val.nilCheckP rfl) rfl ?_
  refine WA.take 2 rfl (by kernel_rfl) rfl (fun w h => (h.sub [1, 2] rfl)) (Val.fldAddr rfl) rfl ?_
  refine WA.take 3 rfl (by kernel_rfl) rfl (fun w h => (h.sub [1, 2] rfl)) (Val.loadS rfl (Rd.own1 0 rfl rfl)) rfl ?_
  refine WA.take 4 rfl (by kernel_rfl) rfl (fun w h => (h.sub [1, 2] rfl)) (Val.fldAddr rfl) rfl ?_
  refine WA.take 5 rfl (by kernel_rfl) rfl (fun w h => (h.sub [1, 2] rfl)) (Val.loadS rfl (Rd.own1 1 rfl rfl)) rfl ?_
  refine WA.take 6 rfl (by kernel_rfl) rfl (fun w h => (h.sub [1, 2] rfl)) (Val.fldAddr rfl) rfl ?_
  refine WA.take 7 rfl (by kernel_rfl) rfl (fun w h => (h.sub [1, 2] rfl)) (Val.ldO 1 rfl rfl rfl) rfl ?_
  refine WA.eff1 (i := 8) (by kernel_rfl) rfl rfl ?_
  refine WL.callP [] rfl rfl (copied_ctr c.atr _ _ _ _ _ (hca.mono hI1) hlim) rfl ?_
  rintro _ I2 _ hI2 ⟨rfl, t1, u1, d1, q1, rfl, ha1⟩
  refine WL.nApp ?_
  refine WL.nil ?_
  refine WK.anyStep (fun w h => (h.sub [1, 2] rfl).less (hI2)) ?_
  refine WA.eff1 (i := 9) (by kernel_rfl) rfl rfl ?_
  refine WL.mapUpdate 2 rfl rfl rfl ?_
  refine WL.nSet ?_
  refine WL.nil ?_
  refine WK.anyStep (fun w h => (h.sub [1, 2] rfl).less (hI2)) ?_
  refine WA.done (by kernel_rfl) ?_
  refine WX.thenC ?_
  refine WC.seq ?_
  refine WC.region ?_
  refine WL.val (Val.fldAddr rfl) rfl ?_
  refine WL.val (Val.loadS rfl (Rd.own1 3 rfl rfl)) rfl ?_
  refine WL.val (Val.build (cs := (Cm.cs { Cm.z with kind := 5, id := c.id } (.slice none 0 0) (.slice none 0 0) (.slice none 0 0) (.slice none 0 0) (.slice none 0 0))) rfl) rfl ?_
  refine WL.stA 4 rfl rfl rfl rfl ?_
  refine WL.val (Val.assignI rfl) rfl ?_
  refine WL.nil ?_
  refine WX.thenC ?_
  refine WC.ret ?_
  have hJ := hI1.trans hI2
  apply WX.doneP (ks := [0, 0, 2, 2, 2, 2, 2])
  case hres => exact RunRes.r2 rfl (ResIs.cellL 4 rfl rfl rfl) (ResIs.tmpI rfl)
  case hI => first | exact Mem.le.refl _ | assumption
  exact ⟨{ D with A := B, f := Sl.put D.f c.id _, cnt := _ }, _, rfl, Cm.id_rep _ ⟨by decide, by decide⟩ hc.id, rfl, rfl, ⟨hB, (hD.rep.mono hJ).up ⟨_, _, _, _, rfl, ha1⟩ _, hD.segs, dom_wrap hD.dom (mem0 hD.abs) hB.od (Nd.count_wrap hD.abs.od h2), lim_up hD.lim hlim _⟩⟩
end Go.Proofs.YtggcpoleklcmkaaGreatDoor

/-
  Drawings, the walks: add.
-/

namespace Go.Dc
open Go.Sl Go.Ls Go.Tr
theorem firstWrong_at : ∀ (l : List Ent) (x : Ent) (r : List Ent), (∀ y ∈ l, y.atr.check y.grp = 0) → x.atr.check x.grp ≠ 0 → firstWrong (l ++ x :: r) = x.atr.check x.grp
  | [], x, r, _, h => by rw [List.nil_append, firstWrong, if_pos h]
  | y :: l, x, r, hl, h => by
    rw [List.cons_append, firstWrong, if_neg (fun e => e (hl y (List.mem_cons_self ..)))]
    exact firstWrong_at l x r (fun z hz => hl z (List.mem_cons_of_mem _ hz)) h
theorem firstWrong_none : ∀ (l : List Ent), (∀ y ∈ l, y.atr.check y.grp = 0) → firstWrong l = 0
  | [], _ => rfl
  | y :: l, h => by
    rw [firstWrong, if_neg (fun e => e (h y (List.mem_cons_self ..)))]
    exact firstWrong_none l fun z hz => h z (List.mem_cons_of_mem _ hz)
theorem segsOf_snoc (l : List Ent) (x : Ent) : segsOf (l ++ [x]) = segsOf l + x.atr.path.length := by
  have h : ∀ a b : List Int, isum (a ++ b) = isum a + isum b := fun a b => by
    induction a with
    | nil => simp [isum]
    | cons y a ih => rw [List.cons_append, isum, isum, ih]; omega
  rw [segsOf, segsOf, List.map_append, h]
  simp [isum]
theorem putAll_snoc : ∀ (l : List Ent) (f : Int → Option Atr) (x : Ent), putAll f (l ++ [x]) = upAt (putAll f l) x.id x.atr
  | [], f, x => rfl
  | y :: l, f, x => by rw [List.cons_append, putAll, putAll, putAll_snoc l]
end Go.Dc
namespace Go.Proofs.YtggcpoleklcmkaaGreatDoor
open Go.Sl Go.Ls Go.Tr Go.Dc
set_option maxRecDepth 100000
set_option maxHeartbeats 4000000
set_option linter.unusedVariables false
set_option linter.unusedSimpArgs false
attribute [local irreducible] WC WL WX WK WA WAK Val Ctr RunRes ResIs Rd At sl box pt Exit.then Exit.inBlock bodyPost Code.wp wpList
theorem dAdd (D : Dm) (d : Dr) (c : Cm) (e t u dd q : Value) (I : Mem) (hN : NeedAt I) (hD : DAbs I D d) (hc : c.at_ I e t u dd q) (hle : c.ents.length ≤ 100000) (hs0 : 0 ≤ d.segs) (hs1 : d.segs + segsOf c.ents ≤ 1048576) :
    Ctr Tryz.prog 66 [ptr D.b, .agg (c.cs e t u dd q).toArray] I D.hp (ApplyR (d.add c) D) := by
  have hce := hc.ents
  have hds := hD.segs
  obtain ⟨a0, c0, a1, c1, a2, c2, a3, c3, a4, c4, rfl, rfl, rfl, rfl, rfl⟩ := hc.sl
  refine Ctr.intro Tryz.func66 rfl rfl rfl fun E F => ?_
  refine WC.seq ?_
  refine WC.region ?_
  (refine WL.boxA rfl rfl ?_; intro _)
  refine WL.nApp ?_
  (refine WL.alloc rfl ?_; intro _)
  refine WL.nApp ?_
  refine WL.val (Val.assignI rfl) rfl ?_
  refine WL.nil ?_
  refine WX.thenC ?_
  refine WC.seq ?_
  refine WC.seq ?_
  refine WC.region ?_
  refine WL.val (Val.fldAddr rfl) rfl ?_
  refine WL.val (Val.loadS rfl (Rd.own1 8 rfl rfl)) rfl ?_
  rename_i g3 g4
  refine WL.callE rfl rfl (whole_ctr c.ents _ _ hce (by omega)) rfl (fun h1 => ?_) (fun h1 => ?_)
  case refine_2 =>
    rw [show d.add c = (d, Cm.z, 20) by rw [Dr.add, if_pos h1]]
    refine WL.val (Val.not rfl) rfl ?_
    refine WL.nil ?_
    refine WX.thenC ?_
    refine WC.condT rfl ?_
    refine WC.seq ?_
    refine WC.region ?_
    refine WL.val (Val.build0) rfl ?_
    refine WL.stA 9 rfl rfl rfl rfl ?_
    refine WL.val (Val.assignI rfl) rfl ?_
    refine WL.nil ?_
    refine WX.thenC ?_
    refine WC.ret ?_
    refine WX.thenRet ?_
    apply WX.doneP (ks := [0, 0, 0, 0, 0, 0, 0])
    case hres => exact RunRes.r2 rfl (ResIs.cellL 9 rfl rfl rfl) (ResIs.tmpI rfl)
    case hI => first | exact Mem.le.refl _ | assumption
    exact ⟨D, _, rfl, Cm.z_rep _, rfl, rfl, hD⟩
  have hw : d.add c = if firstWrong c.ents ≠ 0 then (d, Cm.z, firstWrong c.ents)
      else if (Nd.add d.top c.parent c.index (nodeOf c.ents)).2 ≠ 0 then (d, Cm.z, (Nd.add d.top c.parent c.index (nodeOf c.ents)).2)
      else (⟨(Nd.add d.top c.parent c.index (nodeOf c.ents)).1, putAll d.at_ c.ents, d.segs + segsOf c.ents⟩, { Cm.z with kind := 2, id := (nodeOf c.ents).id }, 0) := by
    rw [Dr.add, if_neg (fun e => e h1), if_neg (show ¬ mostSegs - d.segs < segsOf c.ents by unfold mostSegs; omega)]
  rw [hw]
  clear hw
  refine WL.val (Val.not rfl) rfl ?_
  refine WL.nil ?_
  refine WX.thenC ?_
  refine WC.condF rfl ?_
  refine WC.skip ?_
  refine WX.thenC ?_
  refine WC.seq ?_
  refine WC.region ?_
  refine WL.val (Val.assignI rfl) rfl ?_
  refine WL.nil ?_
  refine WX.thenC ?_
  refine WC.seq ?_
  refine WC.seq ?_
  refine WC.region ?_
  refine WL.val (Val.fldAddr rfl) rfl ?_
  refine WL.val (Val.loadS rfl (Rd.own1 8 rfl rfl)) rfl ?_
  refine WL.val (Val.len rfl) rfl ?_
  refine WL.val (Val.moveI rfl) rfl ?_
  refine WL.nil ?_
  refine WX.thenC ?_
  refine WC.block ?_
  refine WC.conv (fun w h => Sat.fold D.A.hp (h.sub [3, 3, 3, 3, 3, 0, 0, 0, 0, 0] rfl)) ?_
  refine WC.loop (fun n ρ' I' L' => ∃ k : Nat, n = c.ents.length - k ∧ k ≤ c.ents.length ∧ I' = I ∧ ρ' 0 = ptr D.b ∧ ρ' 3 = ptr g3 ∧ ρ' 4 = ptr g4 ∧ ρ' 6 = vi (segsOf (c.ents.take k)) ∧ ρ' 23 = .slice a0 c.ents.length c0 ∧ ρ' 24 = vi c.ents.length ∧ ρ' 25 = vi k ∧
      L' = [sts D.A.hp, F, docBox D.b D.A.b D.mb D.segs, mp D.mb D.f D.cnt, box g3 59 (c.cs (.slice a0 c.ents.length c0) (.slice a1 c.atr.sty.fill.stops.length c1) (.slice a2 c.atr.sty.pen.stops.length c2) (.slice a3 c.atr.sty.dash.length c3) (.slice a4 c.atr.path.length c4)), box g4 59 (Cm.z.cs (.slice none 0 0) (.slice none 0 0) (.slice none 0 0) (.slice none 0 0) (.slice none 0 0))] ∧
      (∀ y ∈ c.ents.take k, y.atr.check y.grp = 0) ∧ 0 ≤ segsOf (c.ents.take k) ∧ segsOf (c.ents.take k) ≤ 4096 * (k : Int))
    c.ents.length ⟨0, rfl, by omega, rfl, rfl, rfl, rfl, rfl, rfl, rfl, rfl, rfl, fun y hy => by simp at hy, by simp [segsOf, isum], by simp [segsOf, isum]⟩ ?_
  rintro n ρ' I0 L' ⟨k, rfl, hk, rfl, r0, r3, r4, r6, r23, r24, r25, rfl, hall, s0, s1⟩
  rw [← upd_self r25, ← upd_self r24, ← upd_self r23, ← upd_self r6, ← upd_self r4, ← upd_self r3, ← upd_self r0]
  clear r25 r24 r23 r6 r4 r3 r0
  by_cases hkn : k < c.ents.length
  · obtain ⟨b, off, cap', cs, he, ⟨t1, t2, t3, t4, rfl, hi⟩, hA⟩ := hce.get k hkn
    cases he
    have hsplit : c.ents = c.ents.take k ++ c.ents[k] :: c.ents.drop (k + 1) := by rw [← List.drop_eq_getElem_cons hkn, List.take_append_drop]
    have htk : c.ents.take (k + 1) = c.ents.take k ++ [c.ents[k]] := List.take_succ_eq_append_getElem hkn
    have hia := hi.atr
    obtain ⟨b1, d1, b2, d2, b3, d3, b4, d4, rfl, rfl, rfl, rfl⟩ := hi.sl
    generalize c.ents[k] = x at *
    refine WC.seq ?_
    refine WC.region ?_
    refine WL.val (Val.lss rfl rfl (decide_eq_true (by omega))) rfl ?_
    refine WL.nil ?_
    refine WX.thenC ?_
    refine WC.seq ?_
    refine WC.condT rfl ?_
    refine WC.skip ?_
    refine WX.thenC ?_
    refine WC.seq ?_
    refine WC.block ?_
    refine WC.seq ?_
    refine WC.region ?_
    refine WL.val (Val.indexAddr rfl rfl (by omega) (by omega)) rfl ?_
    refine WL.val (Val.loadI rfl (by assumption) rfl) rfl ?_
    (refine WL.alloc rfl ?_; intro _)
    refine WL.nApp ?_
    refine WL.stA 6 rfl rfl rfl rfl ?_
    refine WL.nil ?_
    refine WX.thenC ?_
    refine WC.seq ?_
    refine WC.seq ?_
    refine WC.region ?_
    refine WL.val (Val.fldAddr rfl) rfl ?_
    refine WL.val (Val.ldO 6 rfl rfl rfl) rfl ?_
    refine WL.val (Val.fldAddr rfl) rfl ?_
    refine WL.val (Val.loadS rfl (Rd.own1 6 rfl rfl)) rfl ?_
    refine WL.callS rfl rfl (atr_ctr x.atr x.grp _ _ _ _ _ hN hia) rfl ?_
    rintro _ rfl
    by_cases h2 : x.atr.check x.grp = 0
    · have hpl := pathCheck_lim (Atr.check_ok h2).2.2
      have hsn := segsOf_snoc (c.ents.take k) x
      rw [← htk] at hsn
      have hall' : ∀ y ∈ c.ents.take (k + 1), y.atr.check y.grp = 0 := by
        rw [htk]
        intro y hy
        rcases List.mem_append.1 hy with hy | hy
        · exact hall y hy
        · rw [List.mem_singleton.1 hy]; exact h2
      refine WL.val (Val.assignI rfl) rfl ?_
      refine WL.nil ?_
      refine WX.thenC ?_
      refine WC.seq ?_
      refine WC.region ?_
      refine WL.val (Val.moveI rfl) rfl ?_
      refine WL.val (Val.neq rfl rfl (bne_eq_false_iff_eq.2 (by omega))) rfl ?_
      refine WL.nil ?_
      refine WX.thenC ?_
      refine WC.condF rfl ?_
      refine WC.skip ?_
      refine WX.thenC ?_
      refine WC.region ?_
      refine WL.val (Val.moveI rfl) rfl ?_
      refine WL.val (Val.fldAddr rfl) rfl ?_
      refine WL.val (Val.fldAddr rfl) rfl ?_
      refine WL.val (Val.loadS rfl (Rd.own1 6 rfl rfl)) rfl ?_
      refine WL.val (Val.len rfl) rfl ?_
      refine WL.val (Val.add rfl rfl (wrap_i64 (by omega) (by omega))) rfl ?_
      refine WL.val (Val.assignI rfl) rfl ?_
      refine WL.nil ?_
      refine WX.inNormal ?_
      refine WX.thenC ?_
      refine WC.region ?_
      refine WL.val (Val.add rfl rfl (wrap_i64 (by omega) (by omega))) rfl ?_
      refine WL.val (Val.moveI rfl) rfl ?_
      refine WL.nil ?_
      refine WX.conv (fun w h => h.sub [0, 0, 0, 0, 0, 0] rfl) ?_
      exact WX.thenK (WK.round (c.ents.length - (k + 1)) (by omega) ⟨k + 1, rfl, by omega, rfl, rfl, rfl, rfl, by rw [hsn]; rfl, rfl, rfl, rfl, rfl, hall', by omega, by omega⟩)
    · have hfw : firstWrong c.ents = x.atr.check x.grp := by rw [hsplit]; exact firstWrong_at _ _ _ hall h2
      rw [hfw, if_pos h2]
      refine WL.val (Val.assignI rfl) rfl ?_
      refine WL.nil ?_
      refine WX.thenC ?_
      refine WC.seq ?_
      refine WC.region ?_
      refine WL.val (Val.moveI rfl) rfl ?_
      refine WL.val (Val.neq rfl rfl (bne_iff_ne.2 (by omega))) rfl ?_
      refine WL.nil ?_
      refine WX.thenC ?_
      refine WC.condT rfl ?_
      refine WC.seq ?_
      refine WC.region ?_
      refine WL.val (Val.build0) rfl ?_
      refine WL.val (Val.moveI rfl) rfl ?_
      refine WL.stA 5 rfl rfl rfl rfl ?_
      refine WL.val (Val.assignI rfl) rfl ?_
      refine WL.nil ?_
      refine WX.thenC ?_
      refine WC.ret ?_
      refine WX.thenRet ?_
      refine WX.inRet ?_
      refine WX.thenRet ?_
      refine WX.thenRet ?_
      refine WX.inRet ?_
      refine WX.thenRet ?_
      refine WX.conv (fun w h => (Sat.unfold h).sub [5, 5, 5, 0, 0, 0, 0, 0, 1] rfl) ?_
      apply WX.doneP (ks := [0, 0, 0, 0, 0, 0, 0])
      case hres => exact RunRes.r2 rfl (ResIs.cellL 8 rfl rfl rfl) (ResIs.tmpI rfl)
      case hI => first | exact Mem.le.refl _ | assumption
      exact ⟨D, _, rfl, Cm.z_rep _, rfl, rfl, hD⟩
  have hke : k = c.ents.length := by omega
  subst hke
  rw [List.take_length] at hall s0 s1 ⊢
  rw [if_neg (fun e => e (firstWrong_none _ hall))]
  obtain ⟨nd, hnd⟩ := (Whole_iff c.ents).1 h1
  rw [nodeOf_eq hnd]
  have hndz := Tk_size hnd
  have hndo : c.ents.map Ent.id = nd.order := by rw [Tk_order hnd, List.map_nil, List.append_nil]
  refine WC.seq ?_
  refine WC.region ?_
  refine WL.val (Val.lss rfl rfl (decide_eq_false (by omega))) rfl ?_
  refine WL.nil ?_
  refine WX.thenC ?_
  refine WC.seq ?_
  refine WC.condF rfl ?_
  refine WC.exit ?_
  refine WX.thenExit ?_
  refine WX.thenExit ?_
  refine WX.inHit ?_
  refine WX.thenC ?_
  refine WC.seq ?_
  refine WC.region ?_
  refine WL.val (Val.fldAddr rfl) rfl ?_
  refine WL.val (Val.loadS rfl (Rd.own1 4 rfl rfl)) rfl ?_
  refine WL.callP [] rfl rfl (node_ctr _ c.ents (Nat.le_refl _) nd [] _ _ hce (by omega) hnd) rfl ?_
  rintro _ I1 _ hI1 ⟨rfl, kv, rv, rfl, hkv, hid, _⟩
  have hkv0 := hkv
  obtain ⟨ka, kc, rfl⟩ := hkv.sl
  refine WL.nApp ?_
  refine WL.val (Val.moveT rfl) rfl ?_
  refine WL.val (Val.extractA rfl rfl) rfl ?_
  refine WL.val (Val.extract rfl rfl) rfl ?_
  (refine WL.alloc rfl ?_; intro _)
  refine WL.nApp ?_
  refine WL.stA 6 rfl rfl rfl rfl ?_
  refine WL.val Val.assign rfl ?_
  refine WL.nil ?_
  refine WX.thenC ?_
  refine WC.seq ?_
  refine WC.seq ?_
  refine WC.region ?_
  refine WL.val (Val.moveI rfl) rfl ?_
  refine WL.val (Val.moveP rfl) rfl ?_
  refine WL.val (Val.nilCheckP rfl) rfl ?_
  refine WL.val (Val.fldAddr rfl) rfl ?_
  refine WL.val (Val.loadS rfl (Rd.own1 2 rfl rfl)) rfl ?_
  refine WL.val (Val.sub rfl rfl (wrap_i64 (by omega) (by omega))) rfl ?_
  refine WL.val (Val.gtr rfl rfl (decide_eq_false (by omega))) rfl ?_
  refine WL.nil ?_
  refine WX.thenC ?_
  refine WC.condF rfl ?_
  refine WC.skip ?_
  refine WX.thenC ?_
  refine WC.seq ?_
  refine WC.seq ?_
  rename_i g10
  refine WC.conv (fun w h => (Sat.unfold h).sub [5, 5, 5, 5, 5, 5, 0, 0, 0, 0, 0] rfl) ?_
  refine WC.drawK 999 I1 [1, 2, 3] rfl (by kernel_rfl) rfl rfl ?_
  refine WA.take 0 rfl (by kernel_rfl) rfl (fun w h => (h.sub [1, 2, 3] rfl)) (Val.moveP rfl) rfl ?_
  refine WA.take 1 rfl (by kernel_rfl) rfl (fun w h => (h.sub [1, 2, 3] rfl)) (Val.nilCheckP rfl) rfl ?_
  refine WA.take 2 rfl (by kernel_rfl) rfl (fun w h => (h.sub [1, 2, 3] rfl)) (Val.fldAddr rfl) rfl ?_
  refine WA.take 3 rfl (by kernel_rfl) rfl (fun w h => (h.sub [1, 2, 3] rfl)) (Val.loadS rfl (Rd.own1 0 rfl rfl)) rfl ?_
  refine WA.take 4 rfl (by kernel_rfl) rfl (fun w h => (h.sub [1, 2, 3] rfl)) (Val.fldAddr rfl) rfl ?_
  refine WA.take 5 rfl (by kernel_rfl) rfl (fun w h => (h.sub [1, 2, 3] rfl)) (Val.loadS rfl (Rd.own1 1 rfl rfl)) rfl ?_
  refine WA.take 6 rfl (by kernel_rfl) rfl (fun w h => (h.sub [1, 2, 3] rfl)) (Val.fldAddr rfl) rfl ?_
  refine WA.take 7 rfl (by kernel_rfl) rfl (fun w h => (h.sub [1, 2, 3] rfl)) (Val.loadS rfl (Rd.own1 1 rfl rfl)) rfl ?_
  refine WA.take 8 rfl (by kernel_rfl) rfl (fun w h => (h.sub [1, 2, 3] rfl)) (Val.ldO 2 rfl rfl rfl) rfl ?_
  refine WA.eff1 (i := 9) (by kernel_rfl) rfl rfl ?_
  refine WL.callP [6, 6, 6, 6, 6] rfl rfl (tAdd D.A d.top hD.abs nd _ c.parent c.index _ (by omega) hid hkv0) rfl ?_
  rintro _ I2 _ hI2 ⟨rfl, B, hb, rfl, hB⟩
  refine WL.nApp ?_
  refine WL.nil ?_
  refine WK.anyStep (fun w h => (h.sub [1, 2, 3] rfl).less (hI2)) ?_
  refine WA.take 10 rfl (by kernel_rfl) rfl (fun w h => (h.sub [1, 2, 3] rfl).less (hI2)) (Val.assignI rfl) rfl ?_
  refine WA.done (by kernel_rfl) ?_
  rw [← hb]
  have hJ2 := hI1.trans hI2
  by_cases h3 : (Nd.add d.top c.parent c.index nd).2 = 0
  case neg =>
    rw [if_pos h3]
    refine WX.thenC ?_
    refine WC.seq ?_
    refine WC.region ?_
    refine WL.val (Val.moveI rfl) rfl ?_
    refine WL.val (Val.neq rfl rfl (bne_iff_ne.2 (by omega))) rfl ?_
    refine WL.nil ?_
    refine WX.thenC ?_
    refine WC.condT rfl ?_
    refine WC.seq ?_
    refine WC.region ?_
    refine WL.val (Val.build0) rfl ?_
    refine WL.val (Val.moveI rfl) rfl ?_
    refine WL.stA 4 rfl rfl rfl rfl ?_
    refine WL.val (Val.assignI rfl) rfl ?_
    refine WL.nil ?_
    refine WX.thenC ?_
    refine WC.ret ?_
    refine WX.thenRet ?_
    apply WX.doneP (ks := [0, 0, 3, 3, 3, 3, 3])
    case hres => exact RunRes.r2 rfl (ResIs.cellL 4 rfl rfl rfl) (ResIs.tmpI rfl)
    case hI => first | exact Mem.le.refl _ | assumption
    rw [Nd.add_err h3] at hB
    exact ⟨{ D with A := B }, _, rfl, Cm.z_rep _, rfl, rfl, ⟨hB, hD.rep.mono hJ2, hD.segs, hD.dom, hD.lim⟩⟩
  rw [if_neg (fun e => e h3)]
  refine WX.thenC ?_
  refine WC.seq ?_
  refine WC.region ?_
  refine WL.val (Val.moveI rfl) rfl ?_
  refine WL.val (Val.neq rfl rfl (bne_eq_false_iff_eq.2 (by omega))) rfl ?_
  refine WL.nil ?_
  refine WX.thenC ?_
  refine WC.condF rfl ?_
  refine WC.skip ?_
  refine WX.thenC ?_
  refine WC.seq ?_
  refine WC.seq ?_
  refine WC.region ?_
  refine WL.val (Val.fldAddr rfl) rfl ?_
  refine WL.val (Val.loadS rfl (Rd.own1 3 rfl rfl)) rfl ?_
  refine WL.val (Val.len rfl) rfl ?_
  refine WL.val (Val.moveI rfl) rfl ?_
  refine WL.nil ?_
  refine WX.thenC ?_
  refine WC.block ?_
  refine WC.conv (fun w h => Sat.fold B.hp (h.sub [6, 6, 6, 6, 6, 0, 0, 0, 0, 0, 0] rfl)) ?_
  refine WC.loop (fun n ρ' I' L' => ∃ (k : Nat) (f' : Int → Option Value) (cnt' : Nat), n = c.ents.length - k ∧ k ≤ c.ents.length ∧ I2.le I' ∧ ρ' 0 = ptr D.b ∧ ρ' 4 = ptr g4 ∧ ρ' 6 = vi (segsOf c.ents) ∧ ρ' 10 = ptr g10 ∧ ρ' 90 = .slice a0 c.ents.length c0 ∧ ρ' 91 = vi c.ents.length ∧ ρ' 92 = vi k ∧
      L' = [sts B.hp, F, docBox D.b B.b D.mb D.segs, mp D.mb f' cnt', box g3 59 (c.cs (.slice a0 c.ents.length c0) (.slice a1 c.atr.sty.fill.stops.length c1) (.slice a2 c.atr.sty.pen.stops.length c2) (.slice a3 c.atr.sty.dash.length c3) (.slice a4 c.atr.path.length c4)), box g4 59 (Cm.z.cs (.slice none 0 0) (.slice none 0 0) (.slice none 0 0) (.slice none 0 0) (.slice none 0 0)), box g10 72 [vi nd.id, .bool nd.grp, .slice ka nd.kids.length kc]] ∧ AtRep I' (putAll d.at_ (c.ents.take k)) f')
    c.ents.length ⟨0, D.f, D.cnt, rfl, by omega, Mem.le.refl _, rfl, rfl, rfl, rfl, rfl, rfl, rfl, rfl, hD.rep.mono hJ2⟩ ?_
  rintro n ρ' I3 L' ⟨k, f', cnt', rfl, hk, hI3, r0, r4, r6, r10, r90, r91, r92, rfl, hrep⟩
  rw [← upd_self r92, ← upd_self r91, ← upd_self r90, ← upd_self r10, ← upd_self r6, ← upd_self r4, ← upd_self r0]
  clear r92 r91 r90 r10 r6 r4 r0
  have hJ3 := hJ2.trans hI3
  by_cases hkn2 : k < c.ents.length
  · obtain ⟨b, off, cap', cs, he, ⟨t1, t2, t3, t4, rfl, hi⟩, hA⟩ := (hce.mono hJ3).get k hkn2
    cases he
    have hpu := putAll_snoc (c.ents.take k) d.at_ c.ents[k]
    rw [← List.take_succ_eq_append_getElem hkn2] at hpu
    have hxl := Atr.check_lim (hall _ (List.getElem_mem hkn2))
    have hia := hi.atr
    obtain ⟨b1, d1, b2, d2, b3, d3, b4, d4, rfl, rfl, rfl, rfl⟩ := hi.sl
    generalize c.ents[k] = x at *
    refine WC.seq ?_
    refine WC.region ?_
    refine WL.val (Val.lss rfl rfl (decide_eq_true (by omega))) rfl ?_
    refine WL.nil ?_
    refine WX.thenC ?_
    refine WC.seq ?_
    refine WC.condT rfl ?_
    refine WC.skip ?_
    refine WX.thenC ?_
    refine WC.seq ?_
    refine WC.block ?_
    refine WC.seq ?_
    refine WC.region ?_
    refine WL.val (Val.indexAddr rfl rfl (by omega) (by omega)) rfl ?_
    refine WL.val (Val.loadI rfl (by assumption) rfl) rfl ?_
    (refine WL.alloc rfl ?_; intro _)
    refine WL.nApp ?_
    refine WL.stA 7 rfl rfl rfl rfl ?_
    refine WL.nil ?_
    refine WX.thenC ?_
    refine WC.drawK 999 I3 [2, 6] rfl (by kernel_rfl) rfl rfl ?_
    refine WA.take 0 rfl (by kernel_rfl) rfl (fun w h => (h.sub [2, 6] rfl)) (Val.moveP rfl) rfl ?_
    refine WA.take 1 rfl (by kernel_rfl) rfl (fun w h => (h.sub [2, 6] rfl)) (Val.nilCheckP rfl) rfl ?_
    refine WA.take 2 rfl (by kernel_rfl) rfl (fun w h => (h.sub [2, 6] rfl)) (Val.fldAddr rfl) rfl ?_
    refine WA.take 3 rfl (by kernel_rfl) rfl (fun w h => (h.sub [2, 6] rfl)) (Val.loadS rfl (Rd.own1 0 rfl rfl)) rfl ?_
    refine WA.take 4 rfl (by kernel_rfl) rfl (fun w h => (h.sub [2, 6] rfl)) (Val.fldAddr rfl) rfl ?_
    refine WA.take 5 rfl (by kernel_rfl) rfl (fun w h => (h.sub [2, 6] rfl)) (Val.loadS rfl (Rd.own1 1 rfl rfl)) rfl ?_
    refine WA.take 6 rfl (by kernel_rfl) rfl (fun w h => (h.sub [2, 6] rfl)) (Val.fldAddr rfl) rfl ?_
    refine WA.take 7 rfl (by kernel_rfl) rfl (fun w h => (h.sub [2, 6] rfl)) (Val.ldO 1 rfl rfl rfl) rfl ?_
    refine WA.eff1 (i := 8) (by kernel_rfl) rfl rfl ?_
    refine WL.callP [] rfl rfl (copied_ctr x.atr _ _ _ _ _ hia hxl) rfl ?_
    rintro _ I4 _ hI4 ⟨rfl, t1, u1, d1, q1, rfl, ha1⟩
    refine WL.nApp ?_
    refine WL.nil ?_
    refine WK.anyStep (fun w h => (h.sub [2, 6] rfl).less (hI4)) ?_
    refine WA.eff1 (i := 9) (by kernel_rfl) rfl rfl ?_
    refine WL.mapUpdate 3 rfl rfl rfl ?_
    refine WL.nSet ?_
    refine WL.nil ?_
    refine WK.anyStep (fun w h => (h.sub [2, 6] rfl).less (hI4)) ?_
    refine WA.done (by kernel_rfl) ?_
    refine WX.inNormal ?_
    refine WX.thenC ?_
    refine WC.region ?_
    refine WL.val (Val.add rfl rfl (wrap_i64 (by omega) (by omega))) rfl ?_
    refine WL.val (Val.moveI rfl) rfl ?_
    refine WL.nil ?_
    refine WX.conv (fun w h => h.sub [0, 0, 0, 0, 0, 0, 0] rfl) ?_
    refine WX.thenK (WK.round (c.ents.length - (k + 1)) (by omega) ⟨k + 1, _, _, rfl, by omega, hI3.trans hI4, rfl, rfl, rfl, rfl, rfl, rfl, rfl, rfl, ?_⟩)
    rw [hpu]
    exact (hrep.mono hI4).up ⟨_, _, _, _, rfl, ha1⟩ _
  · have hke2 : k = c.ents.length := by omega
    subst hke2
    rw [List.take_length] at hrep
    refine WC.seq ?_
    refine WC.region ?_
    refine WL.val (Val.lss rfl rfl (decide_eq_false (by omega))) rfl ?_
    refine WL.nil ?_
    refine WX.thenC ?_
    refine WC.seq ?_
    refine WC.condF rfl ?_
    refine WC.exit ?_
    refine WX.thenExit ?_
    refine WX.thenExit ?_
    refine WX.inHit ?_
    refine WX.thenC ?_
    refine WC.seq ?_
    refine WC.region ?_
    refine WL.val (Val.moveP rfl) rfl ?_
    refine WL.val (Val.nilCheckP rfl) rfl ?_
    refine WL.val (Val.fldAddr rfl) rfl ?_
    refine WL.val (Val.loadS rfl (Rd.own1 2 rfl rfl)) rfl ?_
    refine WL.val (Val.moveI rfl) rfl ?_
    refine WL.val (Val.add rfl rfl (wrap_i64 (by omega) (by omega))) rfl ?_
    refine WL.val (Val.nilCheckP rfl) rfl ?_
    refine WL.val (Val.fldAddr rfl) rfl ?_
    refine WL.stI 2 rfl rfl rfl rfl ?_
    refine WL.nil ?_
    refine WX.thenC ?_
    refine WC.seq ?_
    refine WC.region ?_
    refine WL.val (Val.fldAddr rfl) rfl ?_
    refine WL.val (Val.loadS rfl (Rd.own1 6 rfl rfl)) rfl ?_
    refine WL.val (Val.build (cs := (Cm.cs { Cm.z with kind := 2, id := nd.id } (.slice none 0 0) (.slice none 0 0) (.slice none 0 0) (.slice none 0 0) (.slice none 0 0))) rfl) rfl ?_
    refine WL.stA 5 rfl rfl rfl rfl ?_
    refine WL.val (Val.assignI rfl) rfl ?_
    refine WL.nil ?_
    refine WX.thenC ?_
    refine WC.ret ?_
    refine WX.conv (fun w h => (Sat.unfold h).sub [5, 5, 5, 0, 0, 0, 0, 0, 1] rfl) ?_
    apply WX.doneP (ks := [0, 0, 0, 0, 0, 0, 0])
    case hres => exact RunRes.r2 rfl (ResIs.cellL 8 rfl rfl rfl) (ResIs.tmpI rfl)
    case hI => first | exact Mem.le.refl _ | assumption
    refine ⟨{ D with A := B, f := f', cnt := cnt', segs := D.segs + segsOf c.ents }, _, rfl, Cm.id_rep _ ⟨by decide, by decide⟩ hid, rfl, rfl, ⟨hB, hrep, by rw [hds], dom_add hD.dom (mem0 hD.abs) hB.od hndo (Nd.count_add hD.abs.od h3), fun i a ha => ?_⟩⟩
    rcases putAll_of _ _ _ _ ha with h | ⟨x, hx, _, rfl⟩
    · exact hD.lim i a h
    · exact Atr.check_lim (hall x hx)
end Go.Proofs.YtggcpoleklcmkaaGreatDoor

/-
  Drawings, the walks: Apply (add, wrap); awake.
-/

namespace Go.Proofs.YtggcpoleklcmkaaGreatDoor
open Go.Sl Go.Ls Go.Tr Go.Dc
set_option maxRecDepth 100000
set_option maxHeartbeats 4000000
set_option linter.unusedVariables false
set_option linter.unusedSimpArgs false
instance : PtK Tryz.prog 49 := ⟨by kernel_rfl⟩
attribute [local irreducible] WC WL WX WK WA WAK Val Ctr RunRes ResIs Rd At sl box pt Exit.then Exit.inBlock bodyPost Code.wp wpList
theorem dApplyAdd (D : Dm) (d : Dr) (c : Cm) (e t u dd q : Value) (I : Mem) (hN : NeedAt I) (hD : DAbs I D d) (hc : c.at_ I e t u dd q) (hk : c.kind = 1) (hle : c.ents.length ≤ 100000) (hs0 : 0 ≤ d.segs) (hs1 : d.segs + segsOf c.ents ≤ 1048576) :
    Ctr Tryz.prog 24 [ptr D.b, .agg (c.cs e t u dd q).toArray] I D.hp (ApplyR (d.add c) D) := by
  have hc0 := hc
  obtain ⟨a0, c0, a1, c1, a2, c2, a3, c3, a4, c4, rfl, rfl, rfl, rfl, rfl⟩ := hc.sl
  refine Ctr.intro Tryz.func24 rfl rfl rfl fun E F => ?_
  refine WC.seq ?_
  refine WC.region ?_
  (refine WL.boxA rfl rfl ?_; intro _)
  refine WL.nApp ?_
  (refine WL.alloc rfl ?_; intro _)
  refine WL.nApp ?_
  refine WL.val (Val.assignI rfl) rfl ?_
  refine WL.nil ?_
  refine WX.thenC ?_
  refine WC.seq ?_
  refine WC.seq ?_
  refine WC.region ?_
  refine WL.val (Val.fldAddr rfl) rfl ?_
  refine WL.val (Val.loadS rfl (Rd.own1 8 rfl rfl)) rfl ?_
  refine WL.nil ?_
  refine WX.thenC ?_
  refine WC.block ?_
  refine WC.seq ?_
  refine WC.region ?_
  refine WL.val (Val.eql rfl rfl (beq_iff_eq.2 (by omega))) rfl ?_
  refine WL.val (Val.assignB rfl) rfl ?_
  refine WL.nil ?_
  refine WX.thenC ?_
  refine WC.condT rfl ?_
  refine WC.seq ?_
  refine WC.region ?_
  refine WL.val (Val.moveP rfl) rfl ?_
  refine WL.val (Val.ldO 8 rfl rfl rfl) rfl ?_
  refine WL.callP [1, 1, 1, 1, 1, 1, 1] rfl rfl (dAdd D d c _ _ _ _ _ _ hN hD hc0 hle hs0 hs1) rfl ?_
  rintro _ I1 _ hI1 ⟨D', bcs, rfl, ⟨e', t', u', d', q', rfl, hbk⟩, hb, rfl, hD'⟩
  have hbk0 := hbk
  obtain ⟨_, _, _, _, _, _, _, _, _, _, rfl, rfl, rfl, rfl, rfl⟩ := hbk.sl
  refine WL.nApp ?_
  refine WL.val (Val.extractA rfl rfl) rfl ?_
  refine WL.val (Val.extractI rfl rfl) rfl ?_
  refine WL.stA 2 rfl rfl rfl rfl ?_
  refine WL.val (Val.assignI rfl) rfl ?_
  refine WL.nil ?_
  refine WX.thenC ?_
  refine WC.ret ?_
  refine WX.inRet ?_
  refine WX.thenRet ?_
  apply WX.doneP (ks := [2, 2, 2, 2, 2, 2, 2])
  case hres => exact RunRes.r2 rfl (ResIs.cellL 2 rfl rfl rfl) (ResIs.tmpI rfl)
  case hI => first | exact Mem.le.refl _ | assumption
  exact ⟨D', _, rfl, ⟨_, _, _, _, _, rfl, hbk0⟩, hb, rfl, hD'⟩
theorem dApplyWrap (D : Dm) (d : Dr) (c : Cm) (e t u dd q : Value) (I : Mem) (hN : NeedAt I) (hD : DAbs I D d) (hc : c.at_ I e t u dd q) (hk : c.kind = 4) :
    Ctr Tryz.prog 24 [ptr D.b, .agg (c.cs e t u dd q).toArray] I D.hp (ApplyR (d.wrap c) D) := by
  have hc0 := hc
  obtain ⟨a0, c0, a1, c1, a2, c2, a3, c3, a4, c4, rfl, rfl, rfl, rfl, rfl⟩ := hc.sl
  refine Ctr.intro Tryz.func24 rfl rfl rfl fun E F => ?_
  refine WC.seq ?_
  refine WC.region ?_
  (refine WL.boxA rfl rfl ?_; intro _)
  refine WL.nApp ?_
  (refine WL.alloc rfl ?_; intro _)
  refine WL.nApp ?_
  refine WL.val (Val.assignI rfl) rfl ?_
  refine WL.nil ?_
  refine WX.thenC ?_
  refine WC.seq ?_
  refine WC.seq ?_
  refine WC.region ?_
  refine WL.val (Val.fldAddr rfl) rfl ?_
  refine WL.val (Val.loadS rfl (Rd.own1 8 rfl rfl)) rfl ?_
  refine WL.nil ?_
  refine WX.thenC ?_
  refine WC.block ?_
  refine WC.seq ?_
  refine WC.region ?_
  refine WL.val (Val.eql rfl rfl (beq_eq_false_iff_ne.2 (by omega))) rfl ?_
  refine WL.val (Val.assignB rfl) rfl ?_
  refine WL.nil ?_
  refine WX.thenC ?_
  refine WC.condF rfl ?_
  refine WC.seq ?_
  refine WC.region ?_
  refine WL.val (Val.eql rfl rfl (beq_eq_false_iff_ne.2 (by omega))) rfl ?_
  refine WL.val (Val.assignB rfl) rfl ?_
  refine WL.nil ?_
  refine WX.thenC ?_
  refine WC.condF rfl ?_
  refine WC.seq ?_
  refine WC.region ?_
  refine WL.val (Val.eql rfl rfl (beq_eq_false_iff_ne.2 (by omega))) rfl ?_
  refine WL.val (Val.assignB rfl) rfl ?_
  refine WL.nil ?_
  refine WX.thenC ?_
  refine WC.condF rfl ?_
  refine WC.seq ?_
  refine WC.region ?_
  refine WL.val (Val.eql rfl rfl (beq_iff_eq.2 (by omega))) rfl ?_
  refine WL.val (Val.assignB rfl) rfl ?_
  refine WL.nil ?_
  refine WX.thenC ?_
  refine WC.condT rfl ?_
  refine WC.seq ?_
  refine WC.region ?_
  refine WL.val (Val.moveP rfl) rfl ?_
  refine WL.val (Val.ldO 8 rfl rfl rfl) rfl ?_
  refine WL.callP [1, 1, 1, 1, 1, 1, 1] rfl rfl (dWrap D d c _ _ _ _ _ _ hN hD hc0) rfl ?_
  rintro _ I1 _ hI1 ⟨D', bcs, rfl, ⟨e', t', u', d', q', rfl, hbk⟩, hb, rfl, hD'⟩
  have hbk0 := hbk
  obtain ⟨_, _, _, _, _, _, _, _, _, _, rfl, rfl, rfl, rfl, rfl⟩ := hbk.sl
  refine WL.nApp ?_
  refine WL.val (Val.extractA rfl rfl) rfl ?_
  refine WL.val (Val.extractI rfl rfl) rfl ?_
  refine WL.stA 2 rfl rfl rfl rfl ?_
  refine WL.val (Val.assignI rfl) rfl ?_
  refine WL.nil ?_
  refine WX.thenC ?_
  refine WC.ret ?_
  refine WX.inRet ?_
  refine WX.thenRet ?_
  apply WX.doneP (ks := [2, 2, 2, 2, 2, 2, 2])
  case hres => exact RunRes.r2 rfl (ResIs.cellL 2 rfl rfl rfl) (ResIs.tmpI rfl)
  case hI => first | exact Mem.le.refl _ | assumption
  exact ⟨D', _, rfl, ⟨_, _, _, _, _, rfl, hbk0⟩, hb, rfl, hD'⟩
def awE : Ent := ⟨1, false, 0, plainAtr⟩
def awC : Cm := { Cm.z with kind := 1, ents := [awE] }
def awW : Cm := { Cm.z with kind := 4, id := 9, count := 1, atr := plainAtr }
def aw1 : Dr × Cm × Int := Dr.new.add awC
def aw2 : Dr × Cm × Int := aw1.1.wrap awW
theorem aw1_err : aw1.2.2 = 0 := by kernel_rfl
theorem aw2_err : aw2.2.2 = 0 := by kernel_rfl
theorem aw2_kind : aw2.2.1.kind = 5 := by kernel_rfl
theorem aw2_id : aw2.2.1.id = 9 := by kernel_rfl
theorem aw2_len : aw2.1.entries.length = 2 := by kernel_rfl
theorem aw2_0 : (aw2.1.entries.head?.map fun x => (x.id, x.kids)) = some (9, 1) := by kernel_rfl
theorem plain_at (I : Mem) : plainAtr.at_ I (.slice none 0 0) (.slice none 0 0) (.slice none 0 0) (.slice none 0 0) := ⟨⟨⟨by decide, by decide⟩, i64z, i64z, ⟨by decide, by decide⟩, i64z, i64z⟩, ⟨Pnt.z_at I, Pnt.z_at I, ⟨by decide, by decide⟩, i64z, i64z, LsAt.nil _ _, i64z, ⟨by decide, by decide⟩, i64z⟩, LsAt.nil _ _⟩
theorem new_abs (I : Mem) (b mb cg db tb : Nat) : DAbs I { b := db, A := Ar.fresh b mb cg, mb := tb, f := fun _ => none, cnt := 0, segs := 0 } Dr.new := by
  refine ⟨Abs.fresh b mb cg, fun i => .inl ⟨rfl, rfl⟩, rfl, fun i => ⟨fun h => (by cases h), fun h => ?_⟩, fun i a h => (by cases h)⟩
  have h2 : i ∈ [0] := h.2
  exact absurd (List.mem_singleton.1 h2) h.1
theorem dAwake (I : Mem) (hN : NeedAt I) : Ctr Tryz.prog 15 [] I [] (KeepR [] fun v _ => v = .bool true) := by
  refine Ctr.intro Tryz.func15 rfl rfl rfl fun E F => ?_
  refine WC.seq ?_
  refine WC.region ?_
  refine WL.val (Val.assignB rfl) rfl ?_
  refine WL.nil ?_
  refine WX.thenC ?_
  refine WC.seq ?_
  refine WC.region ?_
  refine WL.callP [] rfl rfl (dNew _) rfl ?_
  rintro _ I1 _ _ ⟨rfl, b, tb, mb, cg, db, rfl, rfl⟩
  have hD0 := new_abs I1 b mb cg db tb
  generalize hDe : ({ b := db, A := Ar.fresh b mb cg, mb := tb, f := fun _ => none, cnt := 0, segs := 0 } : Dm) = D0 at hD0
  have hL0 : docBox db b tb 0 :: mp tb (fun _ => none) 0 :: (Ar.fresh b mb cg).hp = D0.hp := by rw [← hDe]; rfl
  have hb0 : db = D0.b := by rw [← hDe]
  rw [hL0, hb0]
  clear hL0 hb0 hDe
  refine WL.nApp ?_
  refine WL.val (Val.assignP rfl) rfl ?_
  refine WL.nil ?_
  refine WX.thenC ?_
  refine WC.seq ?_
  refine WC.seq ?_
  refine WC.region ?_
  refine WL.val (Val.moveP rfl) rfl ?_
  refine WL.val (Val.eqlNilP rfl) rfl ?_
  refine WL.nil ?_
  refine WX.thenC ?_
  refine WC.condF rfl ?_
  refine WC.skip ?_
  refine WX.thenC ?_
  refine WC.seq ?_
  refine WC.region ?_
  refine WL.val (Val.moveP rfl) rfl ?_
  refine WL.callS rfl rfl (plain_ctr _) rfl ?_
  rintro _ rfl
  skip
  refine WL.val (Val.build (cs := (Ent.cs awE (.slice none 0 0) (.slice none 0 0) (.slice none 0 0) (.slice none 0 0))) rfl) rfl ?_
  (refine WL.buildSlice (by with_unfolding_all exact rfl) rfl (by with_unfolding_all exact rfl) rfl ?_; intro _)
  refine WL.nApp ?_
  rename_i g5
  refine WL.boxSl (e := 69) (sz := 37) (n := 1) 8 rfl rfl (by decide) ?_
  refine WL.freezeL (R := Ent.rep) (l := [awE]) 8 rfl ⟨[_], rfl, ⟨_, _, _, _, rfl, ⟨by decide, by decide⟩, i64z, plain_at _⟩, trivial⟩ fun I2 hI2 hv => ?_
  refine WL.val (Val.build (cs := (Cm.cs awC (.slice (some ⟨g5, 0, none⟩) 1 1) (.slice none 0 0) (.slice none 0 0) (.slice none 0 0) (.slice none 0 0))) rfl) rfl ?_
  skip
  refine WL.callP [1, 1, 1, 1, 1, 1, 1] rfl rfl (dApplyAdd D0 Dr.new awC _ _ _ _ _ _ (hN.mono hI2) (hD0.mono hI2) ⟨⟨by decide, by decide⟩, i64z, i64z, i64z, i64z, i64z, i64z, hv, Atr.z_at _, Sg.z_ok, Pt.z_ok⟩ rfl (by decide) (by decide) (by decide)) rfl ?_
  rintro _ I3 _ hI3 ⟨D1, bcs, rfl, ⟨_, _, _, _, _, rfl, hbk⟩, hb1, rfl, hD1⟩
  obtain ⟨_, _, _, _, _, _, _, _, _, _, rfl, rfl, rfl, rfl, rfl⟩ := hbk.sl
  rw [show (Dr.new.add awC).2.2 = 0 from aw1_err]
  replace hD1 : DAbs I3 D1 aw1.1 := hD1
  clear hbk
  generalize (Dr.new.add awC).2.1 = bk1
  rw [← hb1]
  refine WL.nApp ?_
  refine WL.val (Val.moveT rfl) rfl ?_
  refine WL.val (Val.extractA rfl rfl) rfl ?_
  refine WL.val (Val.extractI rfl rfl) rfl ?_
  (refine WL.alloc rfl ?_; intro _)
  refine WL.nApp ?_
  refine WL.stA 8 rfl rfl rfl rfl ?_
  refine WL.val (Val.assignI rfl) rfl ?_
  refine WL.nil ?_
  refine WX.thenC ?_
  refine WC.seq ?_
  refine WC.region ?_
  refine WL.val (Val.moveP rfl) rfl ?_
  refine WL.callS rfl rfl (plain_ctr _) rfl ?_
  rintro _ rfl
  skip
  refine WL.val (Val.build (cs := (Cm.cs awW (.slice none 0 0) (.slice none 0 0) (.slice none 0 0) (.slice none 0 0) (.slice none 0 0))) rfl) rfl ?_
  skip
  have hN3 := (hN.mono hI2).mono hI3
  refine WL.callP [1, 1, 1, 1, 1, 1, 1] rfl rfl (dApplyWrap D1 aw1.1 awW _ _ _ _ _ _ hN3 hD1 ⟨⟨by decide, by decide⟩, ⟨by decide, by decide⟩, i64z, i64z, ⟨by decide, by decide⟩, i64z, i64z, LsAt.nil _ _, plain_at _, Sg.z_ok, Pt.z_ok⟩ rfl) rfl ?_
  rintro _ I4 _ hI4 ⟨D2, bcs2, rfl, ⟨_, _, _, _, _, rfl, hbk⟩, hb2, rfl, hD2⟩
  obtain ⟨_, _, _, _, _, _, _, _, _, _, rfl, rfl, rfl, rfl, rfl⟩ := hbk.sl
  rw [show (aw1.1.wrap awW).2.2 = 0 from aw2_err]
  replace hD2 : DAbs I4 D2 aw2.1 := hD2
  clear hbk
  have hk5 : (aw1.1.wrap awW).2.1.kind = 5 := aw2_kind
  have hi9 : (aw1.1.wrap awW).2.1.id = 9 := aw2_id
  generalize (aw1.1.wrap awW).2.1 = bk2 at hk5 hi9 ⊢
  rw [← hb2]
  refine WL.nApp ?_
  refine WL.val (Val.moveT rfl) rfl ?_
  refine WL.val (Val.extractA rfl rfl) rfl ?_
  refine WL.val (Val.extractI rfl rfl) rfl ?_
  (refine WL.alloc rfl ?_; intro _)
  refine WL.nApp ?_
  refine WL.stA 9 rfl rfl rfl rfl ?_
  refine WL.val (Val.assignI rfl) rfl ?_
  refine WL.nil ?_
  refine WX.thenC ?_
  refine WC.seq ?_
  refine WC.region ?_
  refine WL.val (Val.moveP rfl) rfl ?_
  refine WL.callR [2, 2, 2, 2, 2, 2, 2] rfl rfl rfl (dEntries D2 aw2.1 _ hD2) rfl ?_
  rintro v I5 hI5 hv5
  have hl2 := aw2_len
  have h9 := aw2_0
  generalize aw2.1.entries = es at hv5 hl2 h9
  obtain ⟨bb, off, cap, cs, he, ⟨t1, t2, t3, t4, rfl, hi⟩, hA⟩ := hv5.get 0 (by omega)
  subst he
  have hA0 : At I5 bb (off + (0 : Int).toNat * 37) [vi es[0].id] := hA.zero rfl
  have hA2 : At I5 bb (off + (0 : Int).toNat * 37 + 2) [vi es[0].kids] := hA.one (k := 2) rfl
  have hx : es[0].id = 9 ∧ es[0].kids = 1 := by
    cases es with
    | nil => simp at hl2
    | cons x es => simpa using h9
  obtain ⟨hx1, hx2⟩ := hx
  rw [hx1] at hA0
  rw [hx2] at hA2
  refine WL.val (Val.assignS rfl) rfl ?_
  refine WL.nil ?_
  refine WX.thenC ?_
  refine WC.seq ?_
  refine WC.region ?_
  refine WL.val (Val.moveI rfl) rfl ?_
  refine WL.val (Val.eql rfl rfl (beq_iff_eq.2 (by omega))) rfl ?_
  refine WL.val (Val.moveB rfl) rfl ?_
  refine WL.gT rfl rfl ?_
  refine WL.val (Val.moveI rfl) rfl ?_
  refine WL.gT rfl rfl ?_
  refine WL.val (Val.eql rfl rfl (beq_iff_eq.2 (by omega))) rfl ?_
  refine WL.val (Val.pick rfl) rfl ?_
  refine WL.val (Val.moveB rfl) rfl ?_
  refine WL.gT rfl rfl ?_
  refine WL.val (Val.fldAddr rfl) rfl ?_
  refine WL.gT rfl rfl ?_
  refine WL.val (Val.loadS rfl (Rd.own1 9 rfl rfl)) rfl ?_
  refine WL.gT rfl rfl ?_
  refine WL.val (Val.eql rfl rfl (beq_iff_eq.2 (by omega))) rfl ?_
  refine WL.val (Val.pick rfl) rfl ?_
  refine WL.val (Val.moveB rfl) rfl ?_
  refine WL.gT rfl rfl ?_
  refine WL.val (Val.fldAddr rfl) rfl ?_
  refine WL.gT rfl rfl ?_
  refine WL.val (Val.loadS rfl (Rd.own1 9 rfl rfl)) rfl ?_
  refine WL.gT rfl rfl ?_
  refine WL.val (Val.eql rfl rfl (beq_iff_eq.2 (by omega))) rfl ?_
  refine WL.val (Val.pick rfl) rfl ?_
  refine WL.val (Val.moveB rfl) rfl ?_
  refine WL.gT rfl rfl ?_
  refine WL.val (Val.moveS rfl) rfl ?_
  refine WL.gT rfl rfl ?_
  refine WL.val (Val.len rfl) rfl ?_
  refine WL.gT rfl rfl ?_
  refine WL.val (Val.eql rfl rfl (beq_iff_eq.2 (by omega))) rfl ?_
  refine WL.val (Val.pick rfl) rfl ?_
  refine WL.val (Val.moveB rfl) rfl ?_
  refine WL.gT rfl rfl ?_
  refine WL.val (Val.moveS rfl) rfl ?_
  refine WL.gT rfl rfl ?_
  refine WL.val (Val.indexAddr rfl rfl (by omega) (by omega)) rfl ?_
  refine WL.gT rfl rfl ?_
  refine WL.val (Val.fldAddr rfl) rfl ?_
  refine WL.gT rfl rfl ?_
  refine WL.val (Val.loadS rfl (Rd.imm (by assumption))) rfl ?_
  refine WL.gT rfl rfl ?_
  refine WL.val (Val.eql rfl rfl (beq_iff_eq.2 (by omega))) rfl ?_
  refine WL.val (Val.pick rfl) rfl ?_
  refine WL.val (Val.moveB rfl) rfl ?_
  refine WL.gT rfl rfl ?_
  refine WL.val (Val.moveS rfl) rfl ?_
  refine WL.gT rfl rfl ?_
  refine WL.val (Val.indexAddr rfl rfl (by omega) (by omega)) rfl ?_
  refine WL.gT rfl rfl ?_
  refine WL.val (Val.fldAddr rfl) rfl ?_
  refine WL.gT rfl rfl ?_
  refine WL.val (Val.loadS rfl (Rd.imm (by assumption))) rfl ?_
  refine WL.gT rfl rfl ?_
  refine WL.val (Val.eql rfl rfl (beq_iff_eq.2 (by omega))) rfl ?_
  refine WL.val (Val.pick rfl) rfl ?_
  refine WL.val (Val.assignB rfl) rfl ?_
  refine WL.nil ?_
  refine WX.thenC ?_
  refine WC.ret ?_
  have hJ := hI2.trans (hI3.trans (hI4.trans hI5))
  apply WX.doneP (ks := [])
  case hres => exact RunRes.r1 rfl (ResIs.tmpB rfl)
  case hI => first | exact Mem.le.refl _ | assumption
  exact ⟨rfl, rfl⟩
end Go.Proofs.YtggcpoleklcmkaaGreatDoor

/-
  Drawings: DocAttrs.
-/

namespace Go.Proofs.YtggcpoleklcmkaaGreatDoor
open Go.Sl Go.Ls Go.Tr Go.Dc
set_option maxRecDepth 100000
set_option maxHeartbeats 8000000
set_option linter.unusedVariables false
set_option linter.unusedSimpArgs false
attribute [local irreducible] WC WL WX WK WA WAK Val Ctr RunRes ResIs Rd At sl box pt Exit.then Exit.inBlock bodyPost Code.wp wpList
theorem plain_check : plainAtr.check true = 0 := by kernel_rfl
theorem dAttrs (a : Atr) (b : Bool) (t u d q : Value) (I : Mem) (hN : NeedAt I) (ha : a.at_ I t u d q) : Ctr Tryz.prog 3 [.agg (a.cs t u d q).toArray, .bool b] I [] (KeepR [] fun v _ => v = .bool true) := by
  have ha0 := ha
  have hpl := plain_check
  obtain ⟨a1, c1, a2, c2, a3, c3, a4, c4, rfl, rfl, rfl, rfl⟩ := ha.sl
  have hlb := ha.path.le
  refine Ctr.intro Tryz.func3 rfl rfl rfl fun E F => ?_
  refine WC.seq ?_
  refine WC.region ?_
  (refine WL.boxA rfl rfl ?_; intro _)
  refine WL.nApp ?_
  refine WL.val (Val.assignB rfl) rfl ?_
  refine WL.nil ?_
  refine WX.thenC ?_
  refine WC.seq ?_
  refine WC.seq ?_
  refine WC.region ?_
  refine WL.val (Val.ldO 1 rfl rfl rfl) rfl ?_
  refine WL.callE rfl rfl (smallAttr_ctr a _ _ _ _ _ ha0) rfl (fun hs => ?_) (fun hs => ?_)
  case refine_2 =>
    refine WL.val (Val.not rfl) rfl ?_
    refine WL.nil ?_
    refine WX.thenC ?_
    refine WC.condT rfl ?_
    refine WC.seq ?_
    refine WC.region ?_
    refine WL.callP [] rfl rfl (dAwake _ hN) rfl ?_
    rintro _ I2 _ hI2 ⟨rfl, rfl⟩
    refine WL.nApp ?_
    refine WL.val (Val.assignB rfl) rfl ?_
    refine WL.nil ?_
    refine WX.thenC ?_
    refine WC.ret ?_
    refine WX.thenRet ?_
    apply WX.doneP (ks := [])
    case hres => exact RunRes.r1 rfl (ResIs.tmpB rfl)
    case hI => first | exact Mem.le.refl _ | assumption
    exact ⟨rfl, rfl⟩
  refine WL.val (Val.not rfl) rfl ?_
  refine WL.nil ?_
  refine WX.thenC ?_
  refine WC.condF rfl ?_
  refine WC.skip ?_
  refine WX.thenC ?_
  refine WC.seq ?_
  refine WC.region ?_
  refine WL.val (Val.assignI rfl) rfl ?_
  refine WL.nil ?_
  refine WX.thenC ?_
  refine WC.seq ?_
  refine WC.block ?_
  refine WC.seq ?_
  refine WC.region ?_
  refine WL.val (Val.fldAddr rfl) rfl ?_
  refine WL.val (Val.ldO 1 rfl rfl rfl) rfl ?_
  refine WL.callE rfl rfl (mtxRight_ctr a.mtx _) rfl (fun h1 => ?_) (fun h1 => ?_)
  case refine_2 =>
    have hc : a.check b = 10 := by rw [Atr.check, if_pos h1]
    refine WL.val (Val.not rfl) rfl ?_
    refine WL.val (Val.assignB rfl) rfl ?_
    refine WL.nil ?_
    refine WX.thenC ?_
    refine WC.condT rfl ?_
    refine WC.region ?_
    refine WL.val (Val.assignI rfl) rfl ?_
    refine WL.nil ?_
    refine WX.inNormal ?_
    refine WX.thenC ?_
    refine WC.seq ?_
    refine WC.region ?_
    refine WL.val (Val.ldO 1 rfl rfl rfl) rfl ?_
    refine WL.val (Val.moveB rfl) rfl ?_
    refine WL.callS rfl rfl (atr_ctr a _ _ _ _ _ _ hN ha0) rfl ?_
    rintro _ rfl
    refine WL.val (Val.moveI rfl) rfl ?_
    refine WL.val (Val.eql rfl rfl (beq_iff_eq.2 (by omega))) rfl ?_
    refine WL.val (Val.moveB rfl) rfl ?_
    refine WL.gT rfl rfl ?_
    refine WL.val (Val.ldO 1 rfl rfl rfl) rfl ?_
    refine WL.gT rfl rfl ?_
    refine WL.val (Val.ldO 1 rfl rfl rfl) rfl ?_
    refine WL.gT rfl rfl ?_
    refine WL.callE rfl rfl (eqAtr a a _ _ _ _ _ _ _ _ _ ha0 ha0) rfl (fun h => ?_) (fun h => absurd rfl h)
    refine WL.val (Val.pick rfl) rfl ?_
    refine WL.val (Val.moveB rfl) rfl ?_
    refine WL.gT rfl rfl ?_
    refine WL.callS rfl rfl (plain_ctr _) rfl ?_
    rintro _ rfl
    refine WL.gT rfl rfl ?_
    refine WL.callS rfl rfl (atr_ctr plainAtr true _ _ _ _ _ hN (plain_at _)) rfl ?_
    rintro _ rfl
    rw [hpl]
    refine WL.gT rfl rfl ?_
    refine WL.val (Val.eql rfl rfl (beq_iff_eq.2 (by omega))) rfl ?_
    refine WL.val (Val.pick rfl) rfl ?_
    refine WL.val (Val.moveB rfl) rfl ?_
    refine WL.gT rfl rfl ?_
    refine WL.callP [] rfl rfl (dAwake _ hN) rfl ?_
    rintro _ I2 _ hI2 ⟨rfl, rfl⟩
    refine WL.nApp ?_
    refine WL.val (Val.pick rfl) rfl ?_
    refine WL.val (Val.assignB rfl) rfl ?_
    refine WL.nil ?_
    refine WX.thenC ?_
    refine WC.ret ?_
    apply WX.doneP (ks := [])
    case hres => exact RunRes.r1 rfl (ResIs.tmpB rfl)
    case hI => first | exact Mem.le.refl _ | assumption
    exact ⟨rfl, rfl⟩
  refine WL.val (Val.not rfl) rfl ?_
  refine WL.val (Val.assignB rfl) rfl ?_
  refine WL.nil ?_
  refine WX.thenC ?_
  refine WC.condF rfl ?_
  refine WC.seq ?_
  refine WC.region ?_
  refine WL.val (Val.fldAddr rfl) rfl ?_
  refine WL.val (Val.ldO 1 rfl rfl rfl) rfl ?_
  refine WL.callS rfl rfl (sty_ctr a.sty _ _ _ _ ha0.sty) rfl ?_
  rintro _ rfl
  by_cases h2 : a.sty.check = 0
  case neg =>
    have hc : a.check b = a.sty.check := by rw [Atr.check, if_neg (fun e => e h1), if_pos h2]
    refine WL.val (Val.neq rfl rfl (bne_iff_ne.2 (by omega))) rfl ?_
    refine WL.val (Val.assignB rfl) rfl ?_
    refine WL.nil ?_
    refine WX.thenC ?_
    refine WC.condT rfl ?_
    refine WC.region ?_
    refine WL.val (Val.fldAddr rfl) rfl ?_
    refine WL.val (Val.ldO 1 rfl rfl rfl) rfl ?_
    refine WL.callS rfl rfl (sty_ctr a.sty _ _ _ _ ha0.sty) rfl ?_
    rintro _ rfl
    refine WL.val (Val.assignI rfl) rfl ?_
    refine WL.nil ?_
    refine WX.inNormal ?_
    refine WX.thenC ?_
    refine WC.seq ?_
    refine WC.region ?_
    refine WL.val (Val.ldO 1 rfl rfl rfl) rfl ?_
    refine WL.val (Val.moveB rfl) rfl ?_
    refine WL.callS rfl rfl (atr_ctr a _ _ _ _ _ _ hN ha0) rfl ?_
    rintro _ rfl
    refine WL.val (Val.moveI rfl) rfl ?_
    refine WL.val (Val.eql rfl rfl (beq_iff_eq.2 (by omega))) rfl ?_
    refine WL.val (Val.moveB rfl) rfl ?_
    refine WL.gT rfl rfl ?_
    refine WL.val (Val.ldO 1 rfl rfl rfl) rfl ?_
    refine WL.gT rfl rfl ?_
    refine WL.val (Val.ldO 1 rfl rfl rfl) rfl ?_
    refine WL.gT rfl rfl ?_
    refine WL.callE rfl rfl (eqAtr a a _ _ _ _ _ _ _ _ _ ha0 ha0) rfl (fun h => ?_) (fun h => absurd rfl h)
    refine WL.val (Val.pick rfl) rfl ?_
    refine WL.val (Val.moveB rfl) rfl ?_
    refine WL.gT rfl rfl ?_
    refine WL.callS rfl rfl (plain_ctr _) rfl ?_
    rintro _ rfl
    refine WL.gT rfl rfl ?_
    refine WL.callS rfl rfl (atr_ctr plainAtr true _ _ _ _ _ hN (plain_at _)) rfl ?_
    rintro _ rfl
    rw [hpl]
    refine WL.gT rfl rfl ?_
    refine WL.val (Val.eql rfl rfl (beq_iff_eq.2 (by omega))) rfl ?_
    refine WL.val (Val.pick rfl) rfl ?_
    refine WL.val (Val.moveB rfl) rfl ?_
    refine WL.gT rfl rfl ?_
    refine WL.callP [] rfl rfl (dAwake _ hN) rfl ?_
    rintro _ I2 _ hI2 ⟨rfl, rfl⟩
    refine WL.nApp ?_
    refine WL.val (Val.pick rfl) rfl ?_
    refine WL.val (Val.assignB rfl) rfl ?_
    refine WL.nil ?_
    refine WX.thenC ?_
    refine WC.ret ?_
    apply WX.doneP (ks := [])
    case hres => exact RunRes.r1 rfl (ResIs.tmpB rfl)
    case hI => first | exact Mem.le.refl _ | assumption
    exact ⟨rfl, rfl⟩
  refine WL.val (Val.neq rfl rfl (bne_eq_false_iff_eq.2 (by omega))) rfl ?_
  refine WL.val (Val.assignB rfl) rfl ?_
  refine WL.nil ?_
  refine WX.thenC ?_
  refine WC.condF rfl ?_
  refine WC.seq ?_
  refine WC.region ?_
  refine WL.val (Val.fldAddr rfl) rfl ?_
  refine WL.val (Val.loadS rfl (Rd.own1 1 rfl rfl)) rfl ?_
  refine WL.callS rfl rfl (path_ctr a.path _ _ hN ha0.path) rfl ?_
  rintro _ rfl
  by_cases h3 : pathCheck a.path = 0
  case neg =>
    have hc : a.check b = pathCheck a.path := by rw [Atr.check, if_neg (fun e => e h1), if_neg (fun e => e h2), if_pos h3]
    refine WL.val (Val.neq rfl rfl (bne_iff_ne.2 (by omega))) rfl ?_
    refine WL.val (Val.assignB rfl) rfl ?_
    refine WL.nil ?_
    refine WX.thenC ?_
    refine WC.condT rfl ?_
    refine WC.region ?_
    refine WL.val (Val.fldAddr rfl) rfl ?_
    refine WL.val (Val.loadS rfl (Rd.own1 1 rfl rfl)) rfl ?_
    refine WL.callS rfl rfl (path_ctr a.path _ _ hN ha0.path) rfl ?_
    rintro _ rfl
    refine WL.val (Val.assignI rfl) rfl ?_
    refine WL.nil ?_
    refine WX.inNormal ?_
    refine WX.thenC ?_
    refine WC.seq ?_
    refine WC.region ?_
    refine WL.val (Val.ldO 1 rfl rfl rfl) rfl ?_
    refine WL.val (Val.moveB rfl) rfl ?_
    refine WL.callS rfl rfl (atr_ctr a _ _ _ _ _ _ hN ha0) rfl ?_
    rintro _ rfl
    refine WL.val (Val.moveI rfl) rfl ?_
    refine WL.val (Val.eql rfl rfl (beq_iff_eq.2 (by omega))) rfl ?_
    refine WL.val (Val.moveB rfl) rfl ?_
    refine WL.gT rfl rfl ?_
    refine WL.val (Val.ldO 1 rfl rfl rfl) rfl ?_
    refine WL.gT rfl rfl ?_
    refine WL.val (Val.ldO 1 rfl rfl rfl) rfl ?_
    refine WL.gT rfl rfl ?_
    refine WL.callE rfl rfl (eqAtr a a _ _ _ _ _ _ _ _ _ ha0 ha0) rfl (fun h => ?_) (fun h => absurd rfl h)
    refine WL.val (Val.pick rfl) rfl ?_
    refine WL.val (Val.moveB rfl) rfl ?_
    refine WL.gT rfl rfl ?_
    refine WL.callS rfl rfl (plain_ctr _) rfl ?_
    rintro _ rfl
    refine WL.gT rfl rfl ?_
    refine WL.callS rfl rfl (atr_ctr plainAtr true _ _ _ _ _ hN (plain_at _)) rfl ?_
    rintro _ rfl
    rw [hpl]
    refine WL.gT rfl rfl ?_
    refine WL.val (Val.eql rfl rfl (beq_iff_eq.2 (by omega))) rfl ?_
    refine WL.val (Val.pick rfl) rfl ?_
    refine WL.val (Val.moveB rfl) rfl ?_
    refine WL.gT rfl rfl ?_
    refine WL.callP [] rfl rfl (dAwake _ hN) rfl ?_
    rintro _ I2 _ hI2 ⟨rfl, rfl⟩
    refine WL.nApp ?_
    refine WL.val (Val.pick rfl) rfl ?_
    refine WL.val (Val.assignB rfl) rfl ?_
    refine WL.nil ?_
    refine WX.thenC ?_
    refine WC.ret ?_
    apply WX.doneP (ks := [])
    case hres => exact RunRes.r1 rfl (ResIs.tmpB rfl)
    case hI => first | exact Mem.le.refl _ | assumption
    exact ⟨rfl, rfl⟩
  have hc : a.check b = if b = true ∧ 0 < a.path.length then 33 else 0 := by rw [Atr.check, if_neg (fun e => e h1), if_neg (fun e => e h2), if_neg (fun e => e h3)]
  by_cases h4 : 0 < a.path.length
  · cases b with
    | true =>
      rw [if_pos ⟨rfl, h4⟩] at hc
      refine WL.val (Val.neq rfl rfl (bne_eq_false_iff_eq.2 (by omega))) rfl ?_
      refine WL.val (Val.assignB rfl) rfl ?_
      refine WL.nil ?_
      refine WX.thenC ?_
      refine WC.condF rfl ?_
      refine WC.seq ?_
      refine WC.region ?_
      refine WL.val (Val.moveB rfl) rfl ?_
      refine WL.val (Val.moveB rfl) rfl ?_
      refine WL.gT rfl rfl ?_
      refine WL.val (Val.fldAddr rfl) rfl ?_
      refine WL.gT rfl rfl ?_
      refine WL.val (Val.loadS rfl (Rd.own1 1 rfl rfl)) rfl ?_
      refine WL.gT rfl rfl ?_
      refine WL.val (Val.len rfl) rfl ?_
      refine WL.gT rfl rfl ?_
      refine WL.val (Val.gtr rfl rfl (decide_eq_true (by omega))) rfl ?_
      refine WL.val (Val.pick rfl) rfl ?_
      refine WL.val (Val.assignB rfl) rfl ?_
      refine WL.nil ?_
      refine WX.thenC ?_
      refine WC.condT rfl ?_
      refine WC.region ?_
      refine WL.val (Val.assignI rfl) rfl ?_
      refine WL.nil ?_
      refine WX.inNormal ?_
      refine WX.thenC ?_
      refine WC.seq ?_
      refine WC.region ?_
      refine WL.val (Val.ldO 1 rfl rfl rfl) rfl ?_
      refine WL.val (Val.moveB rfl) rfl ?_
      refine WL.callS rfl rfl (atr_ctr a _ _ _ _ _ _ hN ha0) rfl ?_
      rintro _ rfl
      refine WL.val (Val.moveI rfl) rfl ?_
      refine WL.val (Val.eql rfl rfl (beq_iff_eq.2 (by omega))) rfl ?_
      refine WL.val (Val.moveB rfl) rfl ?_
      refine WL.gT rfl rfl ?_
      refine WL.val (Val.ldO 1 rfl rfl rfl) rfl ?_
      refine WL.gT rfl rfl ?_
      refine WL.val (Val.ldO 1 rfl rfl rfl) rfl ?_
      refine WL.gT rfl rfl ?_
      refine WL.callE rfl rfl (eqAtr a a _ _ _ _ _ _ _ _ _ ha0 ha0) rfl (fun h => ?_) (fun h => absurd rfl h)
      refine WL.val (Val.pick rfl) rfl ?_
      refine WL.val (Val.moveB rfl) rfl ?_
      refine WL.gT rfl rfl ?_
      refine WL.callS rfl rfl (plain_ctr _) rfl ?_
      rintro _ rfl
      refine WL.gT rfl rfl ?_
      refine WL.callS rfl rfl (atr_ctr plainAtr true _ _ _ _ _ hN (plain_at _)) rfl ?_
      rintro _ rfl
      rw [hpl]
      refine WL.gT rfl rfl ?_
      refine WL.val (Val.eql rfl rfl (beq_iff_eq.2 (by omega))) rfl ?_
      refine WL.val (Val.pick rfl) rfl ?_
      refine WL.val (Val.moveB rfl) rfl ?_
      refine WL.gT rfl rfl ?_
      refine WL.callP [] rfl rfl (dAwake _ hN) rfl ?_
      rintro _ I2 _ hI2 ⟨rfl, rfl⟩
      refine WL.nApp ?_
      refine WL.val (Val.pick rfl) rfl ?_
      refine WL.val (Val.assignB rfl) rfl ?_
      refine WL.nil ?_
      refine WX.thenC ?_
      refine WC.ret ?_
      apply WX.doneP (ks := [])
      case hres => exact RunRes.r1 rfl (ResIs.tmpB rfl)
      case hI => first | exact Mem.le.refl _ | assumption
      exact ⟨rfl, rfl⟩
    | false =>
      rw [if_neg (fun e => by cases e.1)] at hc
      refine WL.val (Val.neq rfl rfl (bne_eq_false_iff_eq.2 (by omega))) rfl ?_
      refine WL.val (Val.assignB rfl) rfl ?_
      refine WL.nil ?_
      refine WX.thenC ?_
      refine WC.condF rfl ?_
      refine WC.seq ?_
      refine WC.region ?_
      refine WL.val (Val.moveB rfl) rfl ?_
      refine WL.val (Val.moveB rfl) rfl ?_
      refine WL.gF rfl rfl rfl rfl ?_
      refine WL.gF rfl rfl rfl rfl ?_
      refine WL.gF rfl rfl rfl rfl ?_
      refine WL.gF rfl rfl rfl rfl ?_
      refine WL.val (Val.pick rfl) rfl ?_
      refine WL.val (Val.assignB rfl) rfl ?_
      refine WL.nil ?_
      refine WX.thenC ?_
      refine WC.condF rfl ?_
      refine WC.skip ?_
      refine WX.inNormal ?_
      refine WX.thenC ?_
      refine WC.seq ?_
      refine WC.region ?_
      refine WL.val (Val.ldO 1 rfl rfl rfl) rfl ?_
      refine WL.val (Val.moveB rfl) rfl ?_
      refine WL.callS rfl rfl (atr_ctr a _ _ _ _ _ _ hN ha0) rfl ?_
      rintro _ rfl
      refine WL.val (Val.moveI rfl) rfl ?_
      refine WL.val (Val.eql rfl rfl (beq_iff_eq.2 (by omega))) rfl ?_
      refine WL.val (Val.moveB rfl) rfl ?_
      refine WL.gT rfl rfl ?_
      refine WL.val (Val.ldO 1 rfl rfl rfl) rfl ?_
      refine WL.gT rfl rfl ?_
      refine WL.val (Val.ldO 1 rfl rfl rfl) rfl ?_
      refine WL.gT rfl rfl ?_
      refine WL.callE rfl rfl (eqAtr a a _ _ _ _ _ _ _ _ _ ha0 ha0) rfl (fun h => ?_) (fun h => absurd rfl h)
      refine WL.val (Val.pick rfl) rfl ?_
      refine WL.val (Val.moveB rfl) rfl ?_
      refine WL.gT rfl rfl ?_
      refine WL.callS rfl rfl (plain_ctr _) rfl ?_
      rintro _ rfl
      refine WL.gT rfl rfl ?_
      refine WL.callS rfl rfl (atr_ctr plainAtr true _ _ _ _ _ hN (plain_at _)) rfl ?_
      rintro _ rfl
      rw [hpl]
      refine WL.gT rfl rfl ?_
      refine WL.val (Val.eql rfl rfl (beq_iff_eq.2 (by omega))) rfl ?_
      refine WL.val (Val.pick rfl) rfl ?_
      refine WL.val (Val.moveB rfl) rfl ?_
      refine WL.gT rfl rfl ?_
      refine WL.callP [] rfl rfl (dAwake _ hN) rfl ?_
      rintro _ I2 _ hI2 ⟨rfl, rfl⟩
      refine WL.nApp ?_
      refine WL.val (Val.pick rfl) rfl ?_
      refine WL.val (Val.assignB rfl) rfl ?_
      refine WL.nil ?_
      refine WX.thenC ?_
      refine WC.ret ?_
      apply WX.doneP (ks := [])
      case hres => exact RunRes.r1 rfl (ResIs.tmpB rfl)
      case hI => first | exact Mem.le.refl _ | assumption
      exact ⟨rfl, rfl⟩
  · rw [if_neg (fun e => h4 e.2)] at hc
    cases b with
    | true =>
      refine WL.val (Val.neq rfl rfl (bne_eq_false_iff_eq.2 (by omega))) rfl ?_
      refine WL.val (Val.assignB rfl) rfl ?_
      refine WL.nil ?_
      refine WX.thenC ?_
      refine WC.condF rfl ?_
      refine WC.seq ?_
      refine WC.region ?_
      refine WL.val (Val.moveB rfl) rfl ?_
      refine WL.val (Val.moveB rfl) rfl ?_
      refine WL.gT rfl rfl ?_
      refine WL.val (Val.fldAddr rfl) rfl ?_
      refine WL.gT rfl rfl ?_
      refine WL.val (Val.loadS rfl (Rd.own1 1 rfl rfl)) rfl ?_
      refine WL.gT rfl rfl ?_
      refine WL.val (Val.len rfl) rfl ?_
      refine WL.gT rfl rfl ?_
      refine WL.val (Val.gtr rfl rfl (decide_eq_false (by omega))) rfl ?_
      refine WL.val (Val.pick rfl) rfl ?_
      refine WL.val (Val.assignB rfl) rfl ?_
      refine WL.nil ?_
      refine WX.thenC ?_
      refine WC.condF rfl ?_
      refine WC.skip ?_
      refine WX.inNormal ?_
      refine WX.thenC ?_
      refine WC.seq ?_
      refine WC.region ?_
      refine WL.val (Val.ldO 1 rfl rfl rfl) rfl ?_
      refine WL.val (Val.moveB rfl) rfl ?_
      refine WL.callS rfl rfl (atr_ctr a _ _ _ _ _ _ hN ha0) rfl ?_
      rintro _ rfl
      refine WL.val (Val.moveI rfl) rfl ?_
      refine WL.val (Val.eql rfl rfl (beq_iff_eq.2 (by omega))) rfl ?_
      refine WL.val (Val.moveB rfl) rfl ?_
      refine WL.gT rfl rfl ?_
      refine WL.val (Val.ldO 1 rfl rfl rfl) rfl ?_
      refine WL.gT rfl rfl ?_
      refine WL.val (Val.ldO 1 rfl rfl rfl) rfl ?_
      refine WL.gT rfl rfl ?_
      refine WL.callE rfl rfl (eqAtr a a _ _ _ _ _ _ _ _ _ ha0 ha0) rfl (fun h => ?_) (fun h => absurd rfl h)
      refine WL.val (Val.pick rfl) rfl ?_
      refine WL.val (Val.moveB rfl) rfl ?_
      refine WL.gT rfl rfl ?_
      refine WL.callS rfl rfl (plain_ctr _) rfl ?_
      rintro _ rfl
      refine WL.gT rfl rfl ?_
      refine WL.callS rfl rfl (atr_ctr plainAtr true _ _ _ _ _ hN (plain_at _)) rfl ?_
      rintro _ rfl
      rw [hpl]
      refine WL.gT rfl rfl ?_
      refine WL.val (Val.eql rfl rfl (beq_iff_eq.2 (by omega))) rfl ?_
      refine WL.val (Val.pick rfl) rfl ?_
      refine WL.val (Val.moveB rfl) rfl ?_
      refine WL.gT rfl rfl ?_
      refine WL.callP [] rfl rfl (dAwake _ hN) rfl ?_
      rintro _ I2 _ hI2 ⟨rfl, rfl⟩
      refine WL.nApp ?_
      refine WL.val (Val.pick rfl) rfl ?_
      refine WL.val (Val.assignB rfl) rfl ?_
      refine WL.nil ?_
      refine WX.thenC ?_
      refine WC.ret ?_
      apply WX.doneP (ks := [])
      case hres => exact RunRes.r1 rfl (ResIs.tmpB rfl)
      case hI => first | exact Mem.le.refl _ | assumption
      exact ⟨rfl, rfl⟩
    | false =>
      refine WL.val (Val.neq rfl rfl (bne_eq_false_iff_eq.2 (by omega))) rfl ?_
      refine WL.val (Val.assignB rfl) rfl ?_
      refine WL.nil ?_
      refine WX.thenC ?_
      refine WC.condF rfl ?_
      refine WC.seq ?_
      refine WC.region ?_
      refine WL.val (Val.moveB rfl) rfl ?_
      refine WL.val (Val.moveB rfl) rfl ?_
      refine WL.gF rfl rfl rfl rfl ?_
      refine WL.gF rfl rfl rfl rfl ?_
      refine WL.gF rfl rfl rfl rfl ?_
      refine WL.gF rfl rfl rfl rfl ?_
      refine WL.val (Val.pick rfl) rfl ?_
      refine WL.val (Val.assignB rfl) rfl ?_
      refine WL.nil ?_
      refine WX.thenC ?_
      refine WC.condF rfl ?_
      refine WC.skip ?_
      refine WX.inNormal ?_
      refine WX.thenC ?_
      refine WC.seq ?_
      refine WC.region ?_
      refine WL.val (Val.ldO 1 rfl rfl rfl) rfl ?_
      refine WL.val (Val.moveB rfl) rfl ?_
      refine WL.callS rfl rfl (atr_ctr a _ _ _ _ _ _ hN ha0) rfl ?_
      rintro _ rfl
      refine WL.val (Val.moveI rfl) rfl ?_
      refine WL.val (Val.eql rfl rfl (beq_iff_eq.2 (by omega))) rfl ?_
      refine WL.val (Val.moveB rfl) rfl ?_
      refine WL.gT rfl rfl ?_
      refine WL.val (Val.ldO 1 rfl rfl rfl) rfl ?_
      refine WL.gT rfl rfl ?_
      refine WL.val (Val.ldO 1 rfl rfl rfl) rfl ?_
      refine WL.gT rfl rfl ?_
      refine WL.callE rfl rfl (eqAtr a a _ _ _ _ _ _ _ _ _ ha0 ha0) rfl (fun h => ?_) (fun h => absurd rfl h)
      refine WL.val (Val.pick rfl) rfl ?_
      refine WL.val (Val.moveB rfl) rfl ?_
      refine WL.gT rfl rfl ?_
      refine WL.callS rfl rfl (plain_ctr _) rfl ?_
      rintro _ rfl
      refine WL.gT rfl rfl ?_
      refine WL.callS rfl rfl (atr_ctr plainAtr true _ _ _ _ _ hN (plain_at _)) rfl ?_
      rintro _ rfl
      rw [hpl]
      refine WL.gT rfl rfl ?_
      refine WL.val (Val.eql rfl rfl (beq_iff_eq.2 (by omega))) rfl ?_
      refine WL.val (Val.pick rfl) rfl ?_
      refine WL.val (Val.moveB rfl) rfl ?_
      refine WL.gT rfl rfl ?_
      refine WL.callP [] rfl rfl (dAwake _ hN) rfl ?_
      rintro _ I2 _ hI2 ⟨rfl, rfl⟩
      refine WL.nApp ?_
      refine WL.val (Val.pick rfl) rfl ?_
      refine WL.val (Val.assignB rfl) rfl ?_
      refine WL.nil ?_
      refine WX.thenC ?_
      refine WC.ret ?_
      apply WX.doneP (ks := [])
      case hres => exact RunRes.r1 rfl (ResIs.tmpB rfl)
      case hI => first | exact Mem.le.refl _ | assumption
      exact ⟨rfl, rfl⟩
end Go.Proofs.YtggcpoleklcmkaaGreatDoor
