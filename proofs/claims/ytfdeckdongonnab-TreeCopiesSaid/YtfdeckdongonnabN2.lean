/-
  Tree, the law's step: one call on both.
-/
import Derived.Test.YtfdeckdongonnabN1
import Derived.Test.YtfdeckdongonnabB3
import Derived.Test.YtfdeckdongonnabB2
namespace Go.Tr
open Go.Sl Go.Ls
/-- What one call makes of a tree. -/
def Nd.Step1 (top top' : Nd) : Prop := top' = top ∨ (∃ p ix nd, top' = (Nd.add top p ix nd).1) ∨ (∃ i, top' = (Nd.remove top i).1) ∨ (∃ i p ix, top' = (Nd.move top i p ix).1) ∨ (∃ i p ix c, top' = (Nd.wrap top i p ix c).1) ∨ (∃ i, top' = (Nd.unwrap top i).1)
section
variable {A : Ar} {top : Nd}
theorem Abs.has (h : Abs A top) (i : Int) : Nd.Has top i := fun h0 n hn => by
  rcases h.cases i with ⟨_, hx⟩ | ⟨q, _, hq, hid, _⟩
  · rw [Nd.find_none _ _ hx] at hn; cases hn
  · have hq0 : q ≠ 0 := fun e => h0 (by rw [← hid]; exact (h.ne0 hq).2 e)
    obtain ⟨y, k, yp, ny, n', R, RO, hk, _, _, _, _, _, _, hw, hf, _⟩ := h.node hq hq0
    rw [hid] at hw
    exact ⟨ny.id, k, ny, hw, hf, hk⟩
theorem Abs.remSize (h : Abs A top) (i : Int) : (Nd.remove top i).1.size ≤ 100000 ∧ (Nd.remove top i).2.1.size ≤ 100000 := by
  have hs := h.size_le
  by_cases h0 : i = 0
  · rw [Nd.remove, if_pos h0]; exact ⟨hs, by simp [Nd.zero, Nd.size, Nd.sizes]⟩
  rcases h.cases i with ⟨_, hx⟩ | ⟨q, _, hq, hid, _⟩
  · rw [Nd.remove, if_neg h0, Nd.find_none _ _ hx]; exact ⟨hs, by simp [Nd.zero, Nd.size, Nd.sizes]⟩
  · have hq0 : q ≠ 0 := fun e => h0 (by rw [← hid]; exact (h.ne0 hq).2 e)
    obtain ⟨y, k, yp, ny, n', R, RO, hk, hl, f, hkn, ht, _, _, _, _, hrem⟩ := h.node hq hq0
    rw [hid] at hrem
    rw [hrem]
    have := (h.cut hl f hk hkn ht (.slice none 0 0)).2.size
    refine ⟨?_, ?_⟩
    · show (Nd.with_ _ _ _).size ≤ _
      omega
    · show n'.size ≤ _
      omega
end
end Go.Tr
namespace Go.Sl
section
variable {Γ : Cx} {ops : Array Oper} {Q : Post} {z : Nat} {I I0 : Mem} {L L0 : List HP} {ρ : Nat → Value} {fuel : Nat} {listed : Array Bool}
/-- What is listed. -/
def marks (n : Nat) (js : List Nat) : Array Bool := ((List.range n).map fun k => js.contains k).toArray
/-- What comes behind a stage is proved once, for whatever order leads there. -/
theorem WA.later (mid : (Nat → Value) → Mem → List HP → Prop) (n2 : Nat) (l2 : Array Bool) (rest : ∀ ρ' I' L', mid ρ' I' L' → WA Γ ops Q z I0 L0 n2 l2 ρ' I' L')
    (h : (∀ ρ' I' L', mid ρ' I' L' → WA Γ ops Q z I0 L0 n2 l2 ρ' I' L') → WA Γ ops Q z I0 L0 fuel listed ρ I L) : WA Γ ops Q z I0 L0 fuel listed ρ I L := h rest
theorem WA.goes {mid : (Nat → Value) → Mem → List HP → Prop} {l2 : Array Bool} {L' : List HP} (rest : ∀ ρ' I' L', mid ρ' I' L' → WA Γ ops Q z I0 L0 fuel l2 ρ' I' L') (hl : listed = l2) (hs : ∀ w, Sat Γ.E w I L → Sat Γ.E w I L') (hm : mid ρ I L') : WA Γ ops Q z I0 L0 fuel listed ρ I L := fun a w ha hw => by
  subst hl; exact rest _ _ _ hm a w ha (hs w hw)
theorem WA.eff3 {i j k : Nat} {d d' d'' : Option Nat} {op op' op'' : Op} {ty ty' ty'' : TypeId} {ps ps' ps'' : String} {af af' af'' : Array Edge} {g g' g'' : Option (Nat × Bool)} {l1 l2 l3 : Array Bool} (hr : Region.ready .any ops listed = [i, j, k]) (hi : ops[i]? = some { dst := d, op := op, type := ty, pos := ps, after := af, guard := g }) (hj : ops[j]? = some { dst := d', op := op', type := ty', pos := ps', after := af', guard := g' }) (hk : ops[k]? = some { dst := d'', op := op'', type := ty'', pos := ps'', after := af'', guard := g'' }) (hl1 : listed.setIfInBounds i true = l1) (hl2 : listed.setIfInBounds j true = l2) (hl3 : listed.setIfInBounds k true = l3)
    (h1 : WL Γ ops [{ dst := d, op := op, type := ty, pos := ps, after := af, guard := g }] ρ I L (Exit.then (WAK Γ ops Q z i I0 L0 fuel l1) Q)) (h2 : WL Γ ops [{ dst := d', op := op', type := ty', pos := ps', after := af', guard := g' }] ρ I L (Exit.then (WAK Γ ops Q z j I0 L0 fuel l2) Q))
    (h3 : WL Γ ops [{ dst := d'', op := op'', type := ty'', pos := ps'', after := af'', guard := g'' }] ρ I L (Exit.then (WAK Γ ops Q z k I0 L0 fuel l3) Q)) : WA Γ ops Q z I0 L0 (fuel + 1) listed ρ I L := fun a w ha hw =>
  anyT_all hr (by simp) fun k hk' => by
    simp at hk'
    rcases hk' with rfl | rfl | rfl
    · rw [hl1]; exact wpOp_of_list hi (h1 a w ha hw)
    · rw [hl2]; exact wpOp_of_list hj (h2 a w ha hw)
    · rw [hl3]; exact wpOp_of_list hk (h3 a w ha hw)
end
end Go.Sl
namespace Go.Proofs.Ytfdeckdongonnab
open Go.Sl Go.Ls Go.Tr
set_option maxRecDepth 100000
set_option maxHeartbeats 8000000
set_option linter.unusedVariables false
attribute [local irreducible] WC WL WX WK WA WAK Val Ctr RunRes ResIs Rd At sl box pt Exit.then Exit.inBlock bodyPost Code.wp wpList
/-- Both were turned alike. -/
def StepR (A : Ar) (top : Nd) : Value → Mem → List HP → Prop := fun v I' L' => ∃ (B : Ar) (top' : Nd) (kv : Value), v = .tuple #[.agg #[vi top'.id, .bool top'.grp, kv], .bool true] ∧ LsAt Nd.Rp I' top'.kids kv ∧ B.b = A.b ∧ L' = B.hp ∧ Abs B top' ∧ Nd.Step1 top top'
theorem tStep (A : Ar) (top : Nd) (hA : Abs A top) (tv : Value) (o : Opn) (ocs : List Value) (I : Mem) (htv : LsAt Nd.Rp I top.kids tv) (ho : Opn.rep I o ocs) (hsm : o.nodes.length ≤ 80) :
    Ctr Try.prog 19 [ptr A.b, .agg #[vi top.id, .bool top.grp, tv], .agg ocs.toArray] I A.hp (StepR A top) := by
  obtain ⟨nv, rfl, k64, d64, p64, i64, c64, hn⟩ := ho
  obtain ⟨na, nc, rfl⟩ := hn.sl
  obtain ⟨ta, tc, rfl⟩ := htv.sl
  have hsle := hA.size_le
  have hit : I64 top.id := by rw [hA.id0]; exact ⟨by decide, by decide⟩
  refine Ctr.intro Try.func19 rfl rfl rfl fun E F => ?_
  have hhas := hA.has o.id
  obtain ⟨hrs, hrs2⟩ := hA.remSize o.id
  by_cases k1 : o.kind = 1
  · by_cases hz : o.nodes.length = 0
    · skip
      refine WC.seq ?_
      refine WC.region ?_
      (refine WL.boxA rfl rfl ?_; intro _)
      refine WL.nApp ?_
      (refine WL.boxA rfl rfl ?_; intro _)
      refine WL.nApp ?_
      (refine WL.alloc rfl ?_; intro _)
      refine WL.nApp ?_
      refine WL.val (Val.assignB rfl) rfl ?_
      refine WL.nil ?_
      refine WX.thenC ?_
      refine WC.seq ?_
      refine WC.seq ?_
      refine WC.region ?_
      refine WL.val (Val.fldAddr rfl) rfl ?_
      refine WL.val (Val.loadS rfl (Rd.own1 7 rfl rfl)) rfl ?_
      refine WL.nil ?_
      refine WX.thenC ?_
      refine WC.block ?_
      refine WC.seq ?_
      refine WC.region ?_
      refine WL.val (Val.eql rfl rfl (beq_iff_eq.2 (by omega))) rfl ?_
      refine WL.val (Val.assignB rfl) rfl ?_
      refine WL.nil ?_
      refine WX.thenC ?_
      refine WC.condT rfl ?_
      refine WC.seq ?_
      refine WC.seq ?_
      refine WC.region ?_
      refine WL.val (Val.fldAddr rfl) rfl ?_
      refine WL.val (Val.loadS rfl (Rd.own1 7 rfl rfl)) rfl ?_
      refine WL.val (Val.len rfl) rfl ?_
      refine WL.val (Val.eql rfl rfl (beq_iff_eq.2 (by omega))) rfl ?_
      refine WL.nil ?_
      refine WX.thenC ?_
      refine WC.condT rfl ?_
      refine WC.seq ?_
      refine WC.region ?_
      refine WL.val (Val.ldO 6 rfl rfl rfl) rfl ?_
      refine WL.stA 8 rfl rfl rfl rfl ?_
      refine WL.val (Val.assignB rfl) rfl ?_
      refine WL.nil ?_
      refine WX.thenC ?_
      refine WC.ret ?_
      refine WX.thenRet ?_
      refine WX.inRet ?_
      refine WX.thenRet ?_
      apply WX.doneP (ks := [0, 0, 0, 0, 0])
      case hres => exact RunRes.r2 rfl (ResIs.cellL 8 rfl rfl rfl) (ResIs.tmpB rfl)
      case hI => first | exact Mem.le.refl _ | assumption
      exact ⟨A, top, _, rfl, htv, rfl, rfl, hA, .inl rfl⟩
    refine WC.seq ?_
    refine WC.region ?_
    (refine WL.boxA rfl rfl ?_; intro _)
    refine WL.nApp ?_
    (refine WL.boxA rfl rfl ?_; intro _)
    refine WL.nApp ?_
    (refine WL.alloc rfl ?_; intro _)
    refine WL.nApp ?_
    refine WL.val (Val.assignB rfl) rfl ?_
    refine WL.nil ?_
    refine WX.thenC ?_
    refine WC.seq ?_
    refine WC.seq ?_
    refine WC.region ?_
    refine WL.val (Val.fldAddr rfl) rfl ?_
    refine WL.val (Val.loadS rfl (Rd.own1 7 rfl rfl)) rfl ?_
    refine WL.nil ?_
    refine WX.thenC ?_
    refine WC.block ?_
    refine WC.seq ?_
    refine WC.region ?_
    refine WL.val (Val.eql rfl rfl (beq_iff_eq.2 (by omega))) rfl ?_
    refine WL.val (Val.assignB rfl) rfl ?_
    refine WL.nil ?_
    refine WX.thenC ?_
    refine WC.condT rfl ?_
    refine WC.seq ?_
    refine WC.seq ?_
    refine WC.region ?_
    refine WL.val (Val.fldAddr rfl) rfl ?_
    refine WL.val (Val.loadS rfl (Rd.own1 7 rfl rfl)) rfl ?_
    refine WL.val (Val.len rfl) rfl ?_
    refine WL.val (Val.eql rfl rfl (beq_eq_false_iff_ne.2 (by omega))) rfl ?_
    refine WL.nil ?_
    refine WX.thenC ?_
    refine WC.condF rfl ?_
    refine WC.skip ?_
    refine WX.thenC ?_
    refine WC.seq ?_
    refine WC.region ?_
    refine WL.val (Val.fldAddr rfl) rfl ?_
    refine WL.val (Val.loadS rfl (Rd.own1 7 rfl rfl)) rfl ?_
    rename_i g4 g5 g6
    refine WL.callP [] rfl rfl (rBuild _ o.nodes (Nat.le_refl _) (by omega) _ 0 _ (by omega) (by decide) (by decide) hn) rfl ?_
    rintro _ I1 _ hI1 ⟨rfl, nd, kv, rfl, hkv, hnid, hnsz⟩
    obtain ⟨ka, kc, rfl⟩ := hkv.sl
    refine WL.nApp ?_
    refine WL.val (Val.moveT rfl) rfl ?_
    refine WL.val (Val.extractA rfl rfl) rfl ?_
    refine WL.val (Val.extractI rfl rfl) rfl ?_
    (refine WL.alloc rfl ?_; intro _)
    refine WL.nApp ?_
    refine WL.stA 9 rfl rfl rfl rfl ?_
    refine WL.val (Val.assignI rfl) rfl ?_
    refine WL.nil ?_
    refine WX.thenC ?_
    refine WC.seq ?_
    rename_i g8
    refine WC.drawK 999 I1 [6, 6, 7] rfl (by kernel_rfl) rfl rfl ?_
    refine WA.take 0 rfl (by kernel_rfl) rfl (fun w h => (h.sub [6, 6, 7] rfl)) (Val.ldO 0 rfl rfl rfl) rfl ?_
    refine WA.take 1 rfl (by kernel_rfl) rfl (fun w h => (h.sub [6, 6, 7] rfl)) (Val.fldAddr rfl) rfl ?_
    refine WA.take 2 rfl (by kernel_rfl) rfl (fun w h => (h.sub [6, 6, 7] rfl)) (Val.loadS rfl (Rd.own1 1 rfl rfl)) rfl ?_
    refine WA.take 3 rfl (by kernel_rfl) rfl (fun w h => (h.sub [6, 6, 7] rfl)) (Val.fldAddr rfl) rfl ?_
    refine WA.take 4 rfl (by kernel_rfl) rfl (fun w h => (h.sub [6, 6, 7] rfl)) (Val.loadS rfl (Rd.own1 1 rfl rfl)) rfl ?_
    refine WA.take 5 rfl (by kernel_rfl) rfl (fun w h => (h.sub [6, 6, 7] rfl)) (Val.ldO 2 rfl rfl rfl) rfl ?_
    refine WA.later (fun ρ' I' L' => ∃ g10 qa qc, I1.le I' ∧ LsAt Nd.Rp I' (Nd.add top o.parent o.index nd).1.kids (.slice qa (Nd.add top o.parent o.index nd).1.kids.length qc) ∧ ρ' 0 = ptr A.b ∧ ρ' 5 = ptr g5 ∧ ρ' 6 = ptr g6 ∧ ρ' 8 = ptr g8 ∧ ρ' 10 = ptr g10 ∧ ρ' 58 = .agg #[vi (Nd.add top o.parent o.index nd).1.id, .bool (Nd.add top o.parent o.index nd).1.grp, .slice qa (Nd.add top o.parent o.index nd).1.kids.length qc] ∧ ρ' 59 = vi (Nd.add top o.parent o.index nd).2 ∧ L' = F :: box g4 39 [vi top.id, .bool top.grp, .slice ta top.kids.length tc] :: box g5 44 [vi o.kind, vi o.id, vi o.parent, vi o.index, vi o.count, .slice na o.nodes.length nc] :: box g6 39 [vi 0, .bool false, .slice none 0 0] :: box g8 29 [vi nd.id, .bool nd.grp, .slice ka nd.kids.length kc] :: box g10 39 [vi 0, .bool false, .slice none 0 0] :: A.hp) 2 (marks 14 [0, 1, 2, 3, 4, 5, 6, 7, 8, 9, 10, 11]) ?_ fun rest => ?_
    · rintro ρ' I' _ ⟨g10, qa, qc, hI', hkq, r0, r5, r6, r8, r10, r58, r59, rfl⟩
      rw [← upd_self r0, ← upd_self r5, ← upd_self r6, ← upd_self r8, ← upd_self r10, ← upd_self r58, ← upd_self r59]
      clear r59 r58 r10 r8 r6 r5 r0
      refine WA.eff1 (i := 12) (by kernel_rfl) rfl rfl ?_
      refine WL.stA 5 rfl rfl rfl rfl ?_
      refine WL.nil ?_
      refine WK.anyStep (fun w h => (h.sub [1, 1, 2] rfl).less (hI')) ?_
      refine WA.take 13 rfl (by kernel_rfl) rfl (fun w h => (h.sub [1, 1, 2] rfl).less (hI')) (Val.assignI rfl) rfl ?_
      refine WA.done (by kernel_rfl) ?_
      refine WX.thenC ?_
      refine WC.seq ?_
      refine WC.drawK 999 I' [2, 3, 3] rfl (by kernel_rfl) rfl rfl ?_
      refine WA.take 0 rfl (by kernel_rfl) rfl (fun w h => (h.sub [2, 3, 3] rfl)) (Val.ldO 2 rfl rfl rfl) rfl ?_
      refine WA.take 1 rfl (by kernel_rfl) rfl (fun w h => (h.sub [2, 3, 3] rfl)) (Val.moveP rfl) rfl ?_
      refine WA.take 2 rfl (by kernel_rfl) rfl (fun w h => (h.sub [2, 3, 3] rfl)) (Val.fldAddr rfl) rfl ?_
      refine WA.take 3 rfl (by kernel_rfl) rfl (fun w h => (h.sub [2, 3, 3] rfl)) (Val.loadS rfl (Rd.own1 0 rfl rfl)) rfl ?_
      refine WA.take 4 rfl (by kernel_rfl) rfl (fun w h => (h.sub [2, 3, 3] rfl)) (Val.fldAddr rfl) rfl ?_
      refine WA.take 5 rfl (by kernel_rfl) rfl (fun w h => (h.sub [2, 3, 3] rfl)) (Val.loadS rfl (Rd.own1 0 rfl rfl)) rfl ?_
      refine WA.take 6 rfl (by kernel_rfl) rfl (fun w h => (h.sub [2, 3, 3] rfl)) (Val.ldO 1 rfl rfl rfl) rfl ?_
      refine WA.take 8 rfl (by kernel_rfl) rfl (fun w h => (h.sub [2, 3, 3] rfl)) (Val.moveI rfl) rfl ?_
      refine WA.eff1 (i := 7) (by kernel_rfl) rfl rfl ?_
      refine WL.callP [6, 6, 6, 6, 6] rfl rfl (tAdd A top hA nd _ o.parent o.index _ (by omega) hnid (hkv.mono hI')) rfl ?_
      rintro _ I4 _ hI4 ⟨rfl, B, hb, rfl, hB⟩
      refine WL.nApp ?_
      refine WL.nil ?_
      refine WK.anyStep (fun w h => (h.sub [2, 3, 3] rfl).less (hI4)) ?_
      refine WA.take 9 rfl (by kernel_rfl) rfl (fun w h => (h.sub [2, 3, 3] rfl).less (hI4)) (Val.eql rfl rfl (beq_iff_eq.2 (by omega))) rfl ?_
      refine WA.eff1 (i := 10) (by kernel_rfl) rfl rfl ?_
      refine WL.stA 3 rfl rfl rfl rfl ?_
      refine WL.nil ?_
      refine WK.anyStep (fun w h => (h.sub [2, 3, 3] rfl).less (hI4)) ?_
      refine WA.take 11 rfl (by kernel_rfl) rfl (fun w h => (h.sub [2, 3, 3] rfl).less (hI4)) (Val.assignB rfl) rfl ?_
      refine WA.done (by kernel_rfl) ?_
      refine WX.thenC ?_
      refine WC.ret ?_
      refine WX.inRet ?_
      refine WX.thenRet ?_
      have hJ := hI1.trans (hI'.trans hI4)
      apply WX.doneP (ks := [5, 5, 5, 5, 5])
      case hres => exact RunRes.r2 rfl (ResIs.cellL 3 rfl rfl rfl) (ResIs.tmpB rfl)
      case hI => first | exact Mem.le.refl _ | assumption
      exact ⟨B, _, _, rfl, hkq.mono hI4, hb, rfl, hB, .inr (.inl ⟨_, _, _, rfl⟩)⟩
    refine WA.eff2 (i := 6) (j := 11) (by kernel_rfl) rfl rfl rfl rfl ?_ ?_
    · skip
      refine WL.callP [] rfl rfl (rRef _ nd (Nat.le_refl _) _ _ (by omega) hnid hkv) rfl ?_
      rintro _ I2 _ hI2 ⟨rfl, kr, rfl, hkr⟩
      refine WL.nApp ?_
      refine WL.nil ?_
      refine WK.anyStep (fun w h => (h.sub [6, 6, 7] rfl).less (hI2)) ?_
      refine WA.eff2 (i := 7) (j := 11) (by kernel_rfl) rfl rfl rfl rfl ?_ ?_
      · skip
        refine WL.callP [] rfl rfl (rAdd top nd _ _ o.parent o.index _ (by omega) (by omega) hit (htv.mono (hI1.trans hI2)) hnid hkr) rfl ?_
        rintro _ I3 _ hI3 ⟨rfl, kq, rfl, hkq⟩
        obtain ⟨qa, qc, rfl⟩ := hkq.sl
        refine WL.nApp ?_
        refine WL.nil ?_
        refine WK.anyStep (fun w h => (h.sub [6, 6, 7] rfl).less ((hI2.trans hI3))) ?_
        refine WA.take 8 rfl (by kernel_rfl) rfl (fun w h => (h.sub [6, 6, 7] rfl).less ((hI2.trans hI3))) (Val.moveT rfl) rfl ?_
        refine WA.take 9 rfl (by kernel_rfl) rfl (fun w h => (h.sub [6, 6, 7] rfl).less ((hI2.trans hI3))) (Val.extractA rfl rfl) rfl ?_
        refine WA.take 10 rfl (by kernel_rfl) rfl (fun w h => (h.sub [6, 6, 7] rfl).less ((hI2.trans hI3))) (Val.extractI rfl rfl) rfl ?_
        refine WA.eff1 (i := 11) (by kernel_rfl) rfl rfl ?_
        (refine WL.alloc rfl ?_; intro _)
        rename_i g10
        refine WL.nApp ?_
        refine WL.nil ?_
        refine WK.anyStep (fun w h => (h.sub [6, 6, 7] rfl).less ((hI2.trans hI3))) ?_
        exact WA.goes rest (by kernel_rfl) (fun w h => h.sub [0, 5, 5, 5, 5, 5, 0, 0, 0, 0, 0] rfl) ⟨g10, qa, qc, hI2.trans hI3, hkq, rfl, rfl, rfl, rfl, rfl, rfl, rfl, rfl⟩
      · skip
        (refine WL.alloc rfl ?_; intro _)
        rename_i g10
        refine WL.nApp ?_
        refine WL.nil ?_
        refine WK.anyStep (fun w h => (h.sub [6, 6, 7] rfl).less (hI2)) ?_
        refine WA.eff1 (i := 7) (by kernel_rfl) rfl rfl ?_
        refine WL.callP [] rfl rfl (rAdd top nd _ _ o.parent o.index _ (by omega) (by omega) hit (htv.mono (hI1.trans hI2)) hnid hkr) rfl ?_
        rintro _ I3 _ hI3 ⟨rfl, kq, rfl, hkq⟩
        obtain ⟨qa, qc, rfl⟩ := hkq.sl
        refine WL.nApp ?_
        refine WL.nil ?_
        refine WK.anyStep (fun w h => (h.sub [6, 6, 7] rfl).less ((hI2.trans hI3))) ?_
        refine WA.take 8 rfl (by kernel_rfl) rfl (fun w h => (h.sub [6, 6, 7] rfl).less ((hI2.trans hI3))) (Val.moveT rfl) rfl ?_
        refine WA.take 9 rfl (by kernel_rfl) rfl (fun w h => (h.sub [6, 6, 7] rfl).less ((hI2.trans hI3))) (Val.extractA rfl rfl) rfl ?_
        refine WA.take 10 rfl (by kernel_rfl) rfl (fun w h => (h.sub [6, 6, 7] rfl).less ((hI2.trans hI3))) (Val.extractI rfl rfl) rfl ?_
        exact WA.goes rest (by kernel_rfl) (fun w h => h.sub [0, 5, 5, 5, 5, 5, 0, 0, 0, 0, 0] rfl) ⟨g10, qa, qc, hI2.trans hI3, hkq, rfl, rfl, rfl, rfl, rfl, rfl, rfl, rfl⟩
    · skip
      (refine WL.alloc rfl ?_; intro _)
      rename_i g10
      refine WL.nApp ?_
      refine WL.nil ?_
      refine WK.anyStep (fun w h => (h.sub [6, 6, 7] rfl)) ?_
      refine WA.eff1 (i := 6) (by kernel_rfl) rfl rfl ?_
      refine WL.callP [] rfl rfl (rRef _ nd (Nat.le_refl _) _ _ (by omega) hnid hkv) rfl ?_
      rintro _ I2 _ hI2 ⟨rfl, kr, rfl, hkr⟩
      refine WL.nApp ?_
      refine WL.nil ?_
      refine WK.anyStep (fun w h => (h.sub [6, 6, 7] rfl).less (hI2)) ?_
      refine WA.eff1 (i := 7) (by kernel_rfl) rfl rfl ?_
      refine WL.callP [] rfl rfl (rAdd top nd _ _ o.parent o.index _ (by omega) (by omega) hit (htv.mono (hI1.trans hI2)) hnid hkr) rfl ?_
      rintro _ I3 _ hI3 ⟨rfl, kq, rfl, hkq⟩
      obtain ⟨qa, qc, rfl⟩ := hkq.sl
      refine WL.nApp ?_
      refine WL.nil ?_
      refine WK.anyStep (fun w h => (h.sub [6, 6, 7] rfl).less ((hI2.trans hI3))) ?_
      refine WA.take 8 rfl (by kernel_rfl) rfl (fun w h => (h.sub [6, 6, 7] rfl).less ((hI2.trans hI3))) (Val.moveT rfl) rfl ?_
      refine WA.take 9 rfl (by kernel_rfl) rfl (fun w h => (h.sub [6, 6, 7] rfl).less ((hI2.trans hI3))) (Val.extractA rfl rfl) rfl ?_
      refine WA.take 10 rfl (by kernel_rfl) rfl (fun w h => (h.sub [6, 6, 7] rfl).less ((hI2.trans hI3))) (Val.extractI rfl rfl) rfl ?_
      exact WA.goes rest (by kernel_rfl) (fun w h => h.sub [0, 5, 5, 5, 5, 5, 0, 0, 0, 0, 0] rfl) ⟨g10, qa, qc, hI2.trans hI3, hkq, rfl, rfl, rfl, rfl, rfl, rfl, rfl, rfl⟩
  by_cases k2 : o.kind = 2
  · skip
    refine WC.seq ?_
    refine WC.region ?_
    (refine WL.boxA rfl rfl ?_; intro _)
    refine WL.nApp ?_
    (refine WL.boxA rfl rfl ?_; intro _)
    refine WL.nApp ?_
    (refine WL.alloc rfl ?_; intro _)
    refine WL.nApp ?_
    refine WL.val (Val.assignB rfl) rfl ?_
    refine WL.nil ?_
    refine WX.thenC ?_
    refine WC.seq ?_
    refine WC.seq ?_
    refine WC.region ?_
    refine WL.val (Val.fldAddr rfl) rfl ?_
    refine WL.val (Val.loadS rfl (Rd.own1 7 rfl rfl)) rfl ?_
    refine WL.nil ?_
    refine WX.thenC ?_
    refine WC.block ?_
    refine WC.seq ?_
    refine WC.region ?_
    refine WL.val (Val.eql rfl rfl (beq_eq_false_iff_ne.2 (by omega))) rfl ?_
    refine WL.val (Val.assignB rfl) rfl ?_
    refine WL.nil ?_
    refine WX.thenC ?_
    refine WC.condF rfl ?_
    refine WC.seq ?_
    refine WC.region ?_
    refine WL.val (Val.eql rfl rfl (beq_iff_eq.2 (by omega))) rfl ?_
    refine WL.val (Val.assignB rfl) rfl ?_
    refine WL.nil ?_
    refine WX.thenC ?_
    refine WC.condT rfl ?_
    refine WC.seq ?_
    refine WC.region ?_
    refine WL.val (Val.moveP rfl) rfl ?_
    refine WL.val (Val.fldAddr rfl) rfl ?_
    refine WL.val (Val.loadS rfl (Rd.own1 7 rfl rfl)) rfl ?_
    rename_i g4 g5 g6
    refine WL.callP [1, 1, 1, 1, 1] rfl rfl (tRemove A top hA o.id _) rfl ?_
    rintro _ I1 _ hI1 ⟨_, B, rfl, ⟨kn, rfl, hkn, hin⟩, hb, rfl, hB⟩
    obtain ⟨na2, nc2, rfl⟩ := hkn.sl
    refine WL.nApp ?_
    refine WL.val (Val.moveT rfl) rfl ?_
    refine WL.val (Val.extractA rfl rfl) rfl ?_
    refine WL.val (Val.extractI rfl rfl) rfl ?_
    refine WL.val (Val.extractI rfl rfl) rfl ?_
    refine WL.val (Val.extractI rfl rfl) rfl ?_
    (refine WL.alloc rfl ?_; intro _)
    refine WL.nApp ?_
    refine WL.stA 9 rfl rfl rfl rfl ?_
    refine WL.val (Val.assignI rfl) rfl ?_
    refine WL.val (Val.assignI rfl) rfl ?_
    refine WL.val (Val.assignI rfl) rfl ?_
    refine WL.nil ?_
    refine WX.thenC ?_
    refine WC.seq ?_
    refine WC.region ?_
    refine WL.val (Val.ldO 1 rfl rfl rfl) rfl ?_
    refine WL.val (Val.fldAddr rfl) rfl ?_
    refine WL.val (Val.loadS rfl (Rd.own1 2 rfl rfl)) rfl ?_
    rename_i g12
    refine WL.callP [] rfl rfl (rRemove top _ o.id _ (by omega) hit (htv.mono hI1) hhas) rfl ?_
    rintro _ I2 _ hI2 ⟨rfl, kq, kw, rfl, hkq, hkw, _⟩
    obtain ⟨qa, qc, rfl⟩ := hkq.sl
    obtain ⟨wa, wc, rfl⟩ := hkw.sl
    refine WL.nApp ?_
    refine WL.val (Val.moveT rfl) rfl ?_
    refine WL.val (Val.extractA rfl rfl) rfl ?_
    refine WL.val (Val.extractA rfl rfl) rfl ?_
    refine WL.val (Val.extractI rfl rfl) rfl ?_
    refine WL.val (Val.extractI rfl rfl) rfl ?_
    refine WL.val (Val.extractI rfl rfl) rfl ?_
    (refine WL.alloc rfl ?_; intro _)
    refine WL.nApp ?_
    (refine WL.alloc rfl ?_; intro _)
    refine WL.nApp ?_
    refine WL.conv (fun w h => h.sub [0, 0, 0, 0, 5, 5, 5, 0, 0, 0, 0, 0] rfl) ?_
    refine WL.stA 5 rfl rfl rfl rfl ?_
    refine WL.stA 6 rfl rfl rfl rfl ?_
    refine WL.val (Val.assignI rfl) rfl ?_
    refine WL.val (Val.assignI rfl) rfl ?_
    refine WL.val (Val.assignI rfl) rfl ?_
    refine WL.nil ?_
    refine WX.thenC ?_
    refine WC.seq ?_
    refine WC.drawK 999 I2 [4, 4, 4] rfl (by kernel_rfl) rfl rfl ?_
    refine WA.take 0 rfl (by kernel_rfl) rfl (fun w h => (h.sub [4, 4, 4] rfl)) (Val.ldO 1 rfl rfl rfl) rfl ?_
    refine WA.take 1 rfl (by kernel_rfl) rfl (fun w h => (h.sub [4, 4, 4] rfl)) (Val.moveI rfl) rfl ?_
    refine WA.take 2 rfl (by kernel_rfl) rfl (fun w h => (h.sub [4, 4, 4] rfl)) (Val.moveI rfl) rfl ?_
    refine WA.take 3 rfl (by kernel_rfl) rfl (fun w h => (h.sub [4, 4, 4] rfl)) (Val.eql rfl rfl (beq_iff_eq.2 (by omega))) rfl ?_
    refine WA.take 4 rfl (by kernel_rfl) rfl (fun w h => (h.sub [4, 4, 4] rfl)) (Val.moveB rfl) rfl ?_
    refine WA.takeGT 5 rfl (by kernel_rfl) rfl (fun w h => (h.sub [4, 4, 4] rfl)) rfl rfl (Val.ldO 0 rfl rfl rfl) rfl ?_
    refine WA.takeGT 6 rfl (by kernel_rfl) rfl (fun w h => (h.sub [4, 4, 4] rfl)) rfl rfl (Val.ldO 2 rfl rfl rfl) rfl ?_
    refine WA.eff1 (i := 7) (by kernel_rfl) rfl rfl ?_
    refine WL.gT rfl rfl ?_
    refine WL.callE rfl rfl (rSame _ _ (Nat.le_refl _) _ _ _ _ (by omega) hin (hkn.mono hI2) hin hkw) rfl (fun h => ?_) (fun h => absurd rfl h)
    refine WL.nil ?_
    refine WK.anyStep (fun w h => (h.sub [4, 4, 4] rfl)) ?_
    refine WA.take 8 rfl (by kernel_rfl) rfl (fun w h => (h.sub [4, 4, 4] rfl)) (Val.pick rfl) rfl ?_
    refine WA.take 9 rfl (by kernel_rfl) rfl (fun w h => (h.sub [4, 4, 4] rfl)) (Val.moveB rfl) rfl ?_
    refine WA.takeGT 10 rfl (by kernel_rfl) rfl (fun w h => (h.sub [4, 4, 4] rfl)) rfl rfl (Val.moveI rfl) rfl ?_
    refine WA.takeGT 11 rfl (by kernel_rfl) rfl (fun w h => (h.sub [4, 4, 4] rfl)) rfl rfl (Val.moveI rfl) rfl ?_
    refine WA.takeGT 12 rfl (by kernel_rfl) rfl (fun w h => (h.sub [4, 4, 4] rfl)) rfl rfl (Val.eql rfl rfl (beq_iff_eq.2 (by omega))) rfl ?_
    refine WA.take 13 rfl (by kernel_rfl) rfl (fun w h => (h.sub [4, 4, 4] rfl)) (Val.pick rfl) rfl ?_
    refine WA.take 14 rfl (by kernel_rfl) rfl (fun w h => (h.sub [4, 4, 4] rfl)) (Val.moveB rfl) rfl ?_
    refine WA.takeGT 15 rfl (by kernel_rfl) rfl (fun w h => (h.sub [4, 4, 4] rfl)) rfl rfl (Val.moveI rfl) rfl ?_
    refine WA.takeGT 16 rfl (by kernel_rfl) rfl (fun w h => (h.sub [4, 4, 4] rfl)) rfl rfl (Val.moveI rfl) rfl ?_
    refine WA.takeGT 17 rfl (by kernel_rfl) rfl (fun w h => (h.sub [4, 4, 4] rfl)) rfl rfl (Val.eql rfl rfl (beq_iff_eq.2 (by omega))) rfl ?_
    refine WA.take 18 rfl (by kernel_rfl) rfl (fun w h => (h.sub [4, 4, 4] rfl)) (Val.pick rfl) rfl ?_
    refine WA.eff1 (i := 19) (by kernel_rfl) rfl rfl ?_
    refine WL.stA 3 rfl rfl rfl rfl ?_
    refine WL.nil ?_
    refine WK.anyStep (fun w h => (h.sub [4, 4, 4] rfl)) ?_
    refine WA.take 20 rfl (by kernel_rfl) rfl (fun w h => (h.sub [4, 4, 4] rfl)) (Val.assignB rfl) rfl ?_
    refine WA.done (by kernel_rfl) ?_
    refine WX.thenC ?_
    refine WC.ret ?_
    refine WX.inRet ?_
    refine WX.thenRet ?_
    have hJ := hI1.trans hI2
    apply WX.doneP (ks := [6, 6, 6, 6, 6])
    case hres => exact RunRes.r2 rfl (ResIs.cellL 3 rfl rfl rfl) (ResIs.tmpB rfl)
    case hI => first | exact Mem.le.refl _ | assumption
    exact ⟨B, _, _, rfl, hkq, hb, rfl, hB, .inr (.inr (.inl ⟨_, rfl⟩))⟩
  by_cases k3 : o.kind = 3
  · skip
    refine WC.seq ?_
    refine WC.region ?_
    (refine WL.boxA rfl rfl ?_; intro _)
    refine WL.nApp ?_
    (refine WL.boxA rfl rfl ?_; intro _)
    refine WL.nApp ?_
    (refine WL.alloc rfl ?_; intro _)
    refine WL.nApp ?_
    refine WL.val (Val.assignB rfl) rfl ?_
    refine WL.nil ?_
    refine WX.thenC ?_
    refine WC.seq ?_
    refine WC.seq ?_
    refine WC.region ?_
    refine WL.val (Val.fldAddr rfl) rfl ?_
    refine WL.val (Val.loadS rfl (Rd.own1 7 rfl rfl)) rfl ?_
    refine WL.nil ?_
    refine WX.thenC ?_
    refine WC.block ?_
    refine WC.seq ?_
    refine WC.region ?_
    refine WL.val (Val.eql rfl rfl (beq_eq_false_iff_ne.2 (by omega))) rfl ?_
    refine WL.val (Val.assignB rfl) rfl ?_
    refine WL.nil ?_
    refine WX.thenC ?_
    refine WC.condF rfl ?_
    refine WC.seq ?_
    refine WC.region ?_
    refine WL.val (Val.eql rfl rfl (beq_eq_false_iff_ne.2 (by omega))) rfl ?_
    refine WL.val (Val.assignB rfl) rfl ?_
    refine WL.nil ?_
    refine WX.thenC ?_
    refine WC.condF rfl ?_
    refine WC.seq ?_
    refine WC.region ?_
    refine WL.val (Val.eql rfl rfl (beq_iff_eq.2 (by omega))) rfl ?_
    refine WL.val (Val.assignB rfl) rfl ?_
    refine WL.nil ?_
    refine WX.thenC ?_
    refine WC.condT rfl ?_
    refine WC.seq ?_
    refine WC.region ?_
    refine WL.val (Val.ldO 6 rfl rfl rfl) rfl ?_
    refine WL.val (Val.fldAddr rfl) rfl ?_
    refine WL.val (Val.loadS rfl (Rd.own1 7 rfl rfl)) rfl ?_
    refine WL.val (Val.fldAddr rfl) rfl ?_
    refine WL.val (Val.loadS rfl (Rd.own1 7 rfl rfl)) rfl ?_
    refine WL.val (Val.fldAddr rfl) rfl ?_
    refine WL.val (Val.loadS rfl (Rd.own1 7 rfl rfl)) rfl ?_
    rename_i g4 g5 g6
    refine WL.callP [] rfl rfl (rMove top _ o.id o.parent o.index _ (by omega) hit htv hhas (by omega)) rfl ?_
    rintro _ I1 _ hI1 ⟨rfl, kq, rfl, hkq⟩
    obtain ⟨qa, qc, rfl⟩ := hkq.sl
    refine WL.nApp ?_
    refine WL.val (Val.moveT rfl) rfl ?_
    refine WL.val (Val.extractA rfl rfl) rfl ?_
    refine WL.val (Val.extractI rfl rfl) rfl ?_
    (refine WL.alloc rfl ?_; intro _)
    refine WL.nApp ?_
    refine WL.stA 9 rfl rfl rfl rfl ?_
    refine WL.val (Val.assignI rfl) rfl ?_
    refine WL.nil ?_
    refine WX.thenC ?_
    refine WC.seq ?_
    refine WC.drawK 999 I1 [7, 8] rfl (by kernel_rfl) rfl rfl ?_
    refine WA.take 0 rfl (by kernel_rfl) rfl (fun w h => (h.sub [7, 8] rfl)) (Val.ldO 1 rfl rfl rfl) rfl ?_
    refine WA.take 1 rfl (by kernel_rfl) rfl (fun w h => (h.sub [7, 8] rfl)) (Val.moveP rfl) rfl ?_
    refine WA.take 2 rfl (by kernel_rfl) rfl (fun w h => (h.sub [7, 8] rfl)) (Val.fldAddr rfl) rfl ?_
    refine WA.take 3 rfl (by kernel_rfl) rfl (fun w h => (h.sub [7, 8] rfl)) (Val.loadS rfl (Rd.own1 0 rfl rfl)) rfl ?_
    refine WA.take 4 rfl (by kernel_rfl) rfl (fun w h => (h.sub [7, 8] rfl)) (Val.fldAddr rfl) rfl ?_
    refine WA.take 5 rfl (by kernel_rfl) rfl (fun w h => (h.sub [7, 8] rfl)) (Val.loadS rfl (Rd.own1 0 rfl rfl)) rfl ?_
    refine WA.take 6 rfl (by kernel_rfl) rfl (fun w h => (h.sub [7, 8] rfl)) (Val.fldAddr rfl) rfl ?_
    refine WA.take 7 rfl (by kernel_rfl) rfl (fun w h => (h.sub [7, 8] rfl)) (Val.loadS rfl (Rd.own1 0 rfl rfl)) rfl ?_
    refine WA.take 9 rfl (by kernel_rfl) rfl (fun w h => (h.sub [7, 8] rfl)) (Val.moveI rfl) rfl ?_
    refine WA.eff1 (i := 8) (by kernel_rfl) rfl rfl ?_
    refine WL.callP [1, 1, 1, 1, 1] rfl rfl (tMove A top hA o.id o.parent o.index _) rfl ?_
    rintro _ I2 _ hI2 ⟨rfl, B, hb, rfl, hB⟩
    refine WL.nApp ?_
    refine WL.nil ?_
    refine WK.anyStep (fun w h => (h.sub [2, 3] rfl).less (hI2)) ?_
    refine WA.take 10 rfl (by kernel_rfl) rfl (fun w h => (h.sub [2, 3] rfl).less (hI2)) (Val.eql rfl rfl (beq_iff_eq.2 (by omega))) rfl ?_
    refine WA.eff1 (i := 11) (by kernel_rfl) rfl rfl ?_
    refine WL.stA 3 rfl rfl rfl rfl ?_
    refine WL.nil ?_
    refine WK.anyStep (fun w h => (h.sub [2, 3] rfl).less (hI2)) ?_
    refine WA.take 12 rfl (by kernel_rfl) rfl (fun w h => (h.sub [2, 3] rfl).less (hI2)) (Val.assignB rfl) rfl ?_
    refine WA.done (by kernel_rfl) ?_
    refine WX.thenC ?_
    refine WC.ret ?_
    refine WX.inRet ?_
    refine WX.thenRet ?_
    have hJ := hI1.trans hI2
    apply WX.doneP (ks := [4, 4, 4, 4, 4])
    case hres => exact RunRes.r2 rfl (ResIs.cellL 3 rfl rfl rfl) (ResIs.tmpB rfl)
    case hI => first | exact Mem.le.refl _ | assumption
    exact ⟨B, _, _, rfl, hkq.mono hI2, hb, rfl, hB, .inr (.inr (.inr (.inl ⟨_, _, _, rfl⟩)))⟩
  by_cases k4 : o.kind = 4
  · skip
    refine WC.seq ?_
    refine WC.region ?_
    (refine WL.boxA rfl rfl ?_; intro _)
    refine WL.nApp ?_
    (refine WL.boxA rfl rfl ?_; intro _)
    refine WL.nApp ?_
    (refine WL.alloc rfl ?_; intro _)
    refine WL.nApp ?_
    refine WL.val (Val.assignB rfl) rfl ?_
    refine WL.nil ?_
    refine WX.thenC ?_
    refine WC.seq ?_
    refine WC.seq ?_
    refine WC.region ?_
    refine WL.val (Val.fldAddr rfl) rfl ?_
    refine WL.val (Val.loadS rfl (Rd.own1 7 rfl rfl)) rfl ?_
    refine WL.nil ?_
    refine WX.thenC ?_
    refine WC.block ?_
    refine WC.seq ?_
    refine WC.region ?_
    refine WL.val (Val.eql rfl rfl (beq_eq_false_iff_ne.2 (by omega))) rfl ?_
    refine WL.val (Val.assignB rfl) rfl ?_
    refine WL.nil ?_
    refine WX.thenC ?_
    refine WC.condF rfl ?_
    refine WC.seq ?_
    refine WC.region ?_
    refine WL.val (Val.eql rfl rfl (beq_eq_false_iff_ne.2 (by omega))) rfl ?_
    refine WL.val (Val.assignB rfl) rfl ?_
    refine WL.nil ?_
    refine WX.thenC ?_
    refine WC.condF rfl ?_
    refine WC.seq ?_
    refine WC.region ?_
    refine WL.val (Val.eql rfl rfl (beq_eq_false_iff_ne.2 (by omega))) rfl ?_
    refine WL.val (Val.assignB rfl) rfl ?_
    refine WL.nil ?_
    refine WX.thenC ?_
    refine WC.condF rfl ?_
    refine WC.seq ?_
    refine WC.region ?_
    refine WL.val (Val.eql rfl rfl (beq_iff_eq.2 (by omega))) rfl ?_
    refine WL.val (Val.assignB rfl) rfl ?_
    refine WL.nil ?_
    refine WX.thenC ?_
    refine WC.condT rfl ?_
    refine WC.seq ?_
    refine WC.region ?_
    refine WL.val (Val.ldO 6 rfl rfl rfl) rfl ?_
    refine WL.val (Val.fldAddr rfl) rfl ?_
    refine WL.val (Val.loadS rfl (Rd.own1 7 rfl rfl)) rfl ?_
    refine WL.val (Val.fldAddr rfl) rfl ?_
    refine WL.val (Val.loadS rfl (Rd.own1 7 rfl rfl)) rfl ?_
    refine WL.val (Val.fldAddr rfl) rfl ?_
    refine WL.val (Val.loadS rfl (Rd.own1 7 rfl rfl)) rfl ?_
    refine WL.val (Val.fldAddr rfl) rfl ?_
    refine WL.val (Val.loadS rfl (Rd.own1 7 rfl rfl)) rfl ?_
    rename_i g4 g5 g6
    refine WL.callP [] rfl rfl (rWrap top _ o.id o.parent o.index o.count _ (by omega) hit htv d64) rfl ?_
    rintro _ I1 _ hI1 ⟨rfl, kq, rfl, hkq⟩
    obtain ⟨qa, qc, rfl⟩ := hkq.sl
    refine WL.nApp ?_
    refine WL.val (Val.moveT rfl) rfl ?_
    refine WL.val (Val.extractA rfl rfl) rfl ?_
    refine WL.val (Val.extractI rfl rfl) rfl ?_
    (refine WL.alloc rfl ?_; intro _)
    refine WL.nApp ?_
    refine WL.stA 9 rfl rfl rfl rfl ?_
    refine WL.val (Val.assignI rfl) rfl ?_
    refine WL.nil ?_
    refine WX.thenC ?_
    refine WC.seq ?_
    refine WC.drawK 999 I1 [7, 8] rfl (by kernel_rfl) rfl rfl ?_
    refine WA.take 0 rfl (by kernel_rfl) rfl (fun w h => (h.sub [7, 8] rfl)) (Val.ldO 1 rfl rfl rfl) rfl ?_
    refine WA.take 1 rfl (by kernel_rfl) rfl (fun w h => (h.sub [7, 8] rfl)) (Val.moveP rfl) rfl ?_
    refine WA.take 2 rfl (by kernel_rfl) rfl (fun w h => (h.sub [7, 8] rfl)) (Val.fldAddr rfl) rfl ?_
    refine WA.take 3 rfl (by kernel_rfl) rfl (fun w h => (h.sub [7, 8] rfl)) (Val.loadS rfl (Rd.own1 0 rfl rfl)) rfl ?_
    refine WA.take 4 rfl (by kernel_rfl) rfl (fun w h => (h.sub [7, 8] rfl)) (Val.fldAddr rfl) rfl ?_
    refine WA.take 5 rfl (by kernel_rfl) rfl (fun w h => (h.sub [7, 8] rfl)) (Val.loadS rfl (Rd.own1 0 rfl rfl)) rfl ?_
    refine WA.take 6 rfl (by kernel_rfl) rfl (fun w h => (h.sub [7, 8] rfl)) (Val.fldAddr rfl) rfl ?_
    refine WA.take 7 rfl (by kernel_rfl) rfl (fun w h => (h.sub [7, 8] rfl)) (Val.loadS rfl (Rd.own1 0 rfl rfl)) rfl ?_
    refine WA.take 8 rfl (by kernel_rfl) rfl (fun w h => (h.sub [7, 8] rfl)) (Val.fldAddr rfl) rfl ?_
    refine WA.take 9 rfl (by kernel_rfl) rfl (fun w h => (h.sub [7, 8] rfl)) (Val.loadS rfl (Rd.own1 0 rfl rfl)) rfl ?_
    refine WA.take 11 rfl (by kernel_rfl) rfl (fun w h => (h.sub [7, 8] rfl)) (Val.moveI rfl) rfl ?_
    refine WA.eff1 (i := 10) (by kernel_rfl) rfl rfl ?_
    refine WL.callP [1, 1, 1, 1, 1] rfl rfl (tWrap A top hA o.id o.parent o.index o.count _ d64 c64) rfl ?_
    rintro _ I2 _ hI2 ⟨rfl, B, hb, rfl, hB⟩
    refine WL.nApp ?_
    refine WL.nil ?_
    refine WK.anyStep (fun w h => (h.sub [2, 3] rfl).less (hI2)) ?_
    refine WA.take 12 rfl (by kernel_rfl) rfl (fun w h => (h.sub [2, 3] rfl).less (hI2)) (Val.eql rfl rfl (beq_iff_eq.2 (by omega))) rfl ?_
    refine WA.eff1 (i := 13) (by kernel_rfl) rfl rfl ?_
    refine WL.stA 3 rfl rfl rfl rfl ?_
    refine WL.nil ?_
    refine WK.anyStep (fun w h => (h.sub [2, 3] rfl).less (hI2)) ?_
    refine WA.take 14 rfl (by kernel_rfl) rfl (fun w h => (h.sub [2, 3] rfl).less (hI2)) (Val.assignB rfl) rfl ?_
    refine WA.done (by kernel_rfl) ?_
    refine WX.thenC ?_
    refine WC.ret ?_
    refine WX.inRet ?_
    refine WX.thenRet ?_
    have hJ := hI1.trans hI2
    apply WX.doneP (ks := [4, 4, 4, 4, 4])
    case hres => exact RunRes.r2 rfl (ResIs.cellL 3 rfl rfl rfl) (ResIs.tmpB rfl)
    case hI => first | exact Mem.le.refl _ | assumption
    exact ⟨B, _, _, rfl, hkq.mono hI2, hb, rfl, hB, .inr (.inr (.inr (.inr (.inl ⟨_, _, _, _, rfl⟩))))⟩
  by_cases k5 : o.kind = 5
  · skip
    refine WC.seq ?_
    refine WC.region ?_
    (refine WL.boxA rfl rfl ?_; intro _)
    refine WL.nApp ?_
    (refine WL.boxA rfl rfl ?_; intro _)
    refine WL.nApp ?_
    (refine WL.alloc rfl ?_; intro _)
    refine WL.nApp ?_
    refine WL.val (Val.assignB rfl) rfl ?_
    refine WL.nil ?_
    refine WX.thenC ?_
    refine WC.seq ?_
    refine WC.seq ?_
    refine WC.region ?_
    refine WL.val (Val.fldAddr rfl) rfl ?_
    refine WL.val (Val.loadS rfl (Rd.own1 7 rfl rfl)) rfl ?_
    refine WL.nil ?_
    refine WX.thenC ?_
    refine WC.block ?_
    refine WC.seq ?_
    refine WC.region ?_
    refine WL.val (Val.eql rfl rfl (beq_eq_false_iff_ne.2 (by omega))) rfl ?_
    refine WL.val (Val.assignB rfl) rfl ?_
    refine WL.nil ?_
    refine WX.thenC ?_
    refine WC.condF rfl ?_
    refine WC.seq ?_
    refine WC.region ?_
    refine WL.val (Val.eql rfl rfl (beq_eq_false_iff_ne.2 (by omega))) rfl ?_
    refine WL.val (Val.assignB rfl) rfl ?_
    refine WL.nil ?_
    refine WX.thenC ?_
    refine WC.condF rfl ?_
    refine WC.seq ?_
    refine WC.region ?_
    refine WL.val (Val.eql rfl rfl (beq_eq_false_iff_ne.2 (by omega))) rfl ?_
    refine WL.val (Val.assignB rfl) rfl ?_
    refine WL.nil ?_
    refine WX.thenC ?_
    refine WC.condF rfl ?_
    refine WC.seq ?_
    refine WC.region ?_
    refine WL.val (Val.eql rfl rfl (beq_eq_false_iff_ne.2 (by omega))) rfl ?_
    refine WL.val (Val.assignB rfl) rfl ?_
    refine WL.nil ?_
    refine WX.thenC ?_
    refine WC.condF rfl ?_
    refine WC.seq ?_
    refine WC.region ?_
    refine WL.val (Val.eql rfl rfl (beq_iff_eq.2 (by omega))) rfl ?_
    refine WL.val (Val.assignB rfl) rfl ?_
    refine WL.nil ?_
    refine WX.thenC ?_
    refine WC.condT rfl ?_
    refine WC.seq ?_
    refine WC.region ?_
    refine WL.val (Val.moveP rfl) rfl ?_
    refine WL.val (Val.fldAddr rfl) rfl ?_
    refine WL.val (Val.loadS rfl (Rd.own1 7 rfl rfl)) rfl ?_
    rename_i g4 g5 g6
    refine WL.callP [1, 1, 1, 1, 1] rfl rfl (tUnwrap A top hA o.id _) rfl ?_
    rintro _ I1 _ hI1 ⟨_, B, rfl, hb, rfl, hB⟩
    refine WL.nApp ?_
    refine WL.val (Val.moveT rfl) rfl ?_
    refine WL.val (Val.extractI rfl rfl) rfl ?_
    refine WL.val (Val.extractI rfl rfl) rfl ?_
    refine WL.val (Val.extractI rfl rfl) rfl ?_
    refine WL.val (Val.extractI rfl rfl) rfl ?_
    refine WL.val (Val.assignI rfl) rfl ?_
    refine WL.val (Val.assignI rfl) rfl ?_
    refine WL.val (Val.assignI rfl) rfl ?_
    refine WL.val (Val.assignI rfl) rfl ?_
    refine WL.nil ?_
    refine WX.thenC ?_
    refine WC.seq ?_
    refine WC.region ?_
    refine WL.val (Val.ldO 1 rfl rfl rfl) rfl ?_
    refine WL.val (Val.fldAddr rfl) rfl ?_
    refine WL.val (Val.loadS rfl (Rd.own1 2 rfl rfl)) rfl ?_
    refine WL.callP [] rfl rfl (rUnwrap top _ o.id _ (by omega) hit (htv.mono hI1) hhas) rfl ?_
    rintro _ I2 _ hI2 ⟨rfl, kq, rfl, hkq⟩
    obtain ⟨qa, qc, rfl⟩ := hkq.sl
    refine WL.nApp ?_
    have hJ := hI1.trans hI2
    refine WL.val (Val.moveT rfl) rfl ?_
    refine WL.val (Val.extractA rfl rfl) rfl ?_
    refine WL.val (Val.extractI rfl rfl) rfl ?_
    refine WL.val (Val.extractI rfl rfl) rfl ?_
    refine WL.val (Val.extractI rfl rfl) rfl ?_
    refine WL.val (Val.extractI rfl rfl) rfl ?_
    (refine WL.alloc rfl ?_; intro _)
    refine WL.nApp ?_
    refine WL.stA 9 rfl rfl rfl rfl ?_
    refine WL.val (Val.assignI rfl) rfl ?_
    refine WL.val (Val.assignI rfl) rfl ?_
    refine WL.val (Val.assignI rfl) rfl ?_
    refine WL.val (Val.assignI rfl) rfl ?_
    refine WL.nil ?_
    refine WX.thenC ?_
    refine WC.seq ?_
    refine WC.region ?_
    refine WL.val (Val.ldO 9 rfl rfl rfl) rfl ?_
    refine WL.val (Val.moveI rfl) rfl ?_
    refine WL.val (Val.moveI rfl) rfl ?_
    refine WL.val (Val.eql rfl rfl (beq_iff_eq.2 (by omega))) rfl ?_
    refine WL.val (Val.moveB rfl) rfl ?_
    refine WL.gT rfl rfl ?_
    refine WL.val (Val.moveI rfl) rfl ?_
    refine WL.gT rfl rfl ?_
    refine WL.val (Val.moveI rfl) rfl ?_
    refine WL.gT rfl rfl ?_
    refine WL.val (Val.eql rfl rfl (beq_iff_eq.2 (by omega))) rfl ?_
    refine WL.val (Val.pick rfl) rfl ?_
    refine WL.val (Val.moveB rfl) rfl ?_
    refine WL.gT rfl rfl ?_
    refine WL.val (Val.moveI rfl) rfl ?_
    refine WL.gT rfl rfl ?_
    refine WL.val (Val.moveI rfl) rfl ?_
    refine WL.gT rfl rfl ?_
    refine WL.val (Val.eql rfl rfl (beq_iff_eq.2 (by omega))) rfl ?_
    refine WL.val (Val.pick rfl) rfl ?_
    refine WL.val (Val.moveB rfl) rfl ?_
    refine WL.gT rfl rfl ?_
    refine WL.val (Val.moveI rfl) rfl ?_
    refine WL.gT rfl rfl ?_
    refine WL.val (Val.moveI rfl) rfl ?_
    refine WL.gT rfl rfl ?_
    refine WL.val (Val.eql rfl rfl (beq_iff_eq.2 (by omega))) rfl ?_
    refine WL.val (Val.pick rfl) rfl ?_
    refine WL.stA 3 rfl rfl rfl rfl ?_
    refine WL.val (Val.assignB rfl) rfl ?_
    refine WL.nil ?_
    refine WX.thenC ?_
    refine WC.ret ?_
    refine WX.inRet ?_
    refine WX.thenRet ?_
    apply WX.doneP (ks := [3, 3, 3, 3, 3])
    case hres => exact RunRes.r2 rfl (ResIs.cellL 3 rfl rfl rfl) (ResIs.tmpB rfl)
    case hI => first | exact Mem.le.refl _ | assumption
    exact ⟨B, _, _, rfl, hkq, hb, rfl, hB, .inr (.inr (.inr (.inr (.inr ⟨_, rfl⟩))))⟩
  refine WC.seq ?_
  refine WC.region ?_
  (refine WL.boxA rfl rfl ?_; intro _)
  refine WL.nApp ?_
  (refine WL.boxA rfl rfl ?_; intro _)
  refine WL.nApp ?_
  (refine WL.alloc rfl ?_; intro _)
  refine WL.nApp ?_
  refine WL.val (Val.assignB rfl) rfl ?_
  refine WL.nil ?_
  refine WX.thenC ?_
  refine WC.seq ?_
  refine WC.seq ?_
  refine WC.region ?_
  refine WL.val (Val.fldAddr rfl) rfl ?_
  refine WL.val (Val.loadS rfl (Rd.own1 7 rfl rfl)) rfl ?_
  refine WL.nil ?_
  refine WX.thenC ?_
  refine WC.block ?_
  refine WC.seq ?_
  refine WC.region ?_
  refine WL.val (Val.eql rfl rfl (beq_eq_false_iff_ne.2 (by omega))) rfl ?_
  refine WL.val (Val.assignB rfl) rfl ?_
  refine WL.nil ?_
  refine WX.thenC ?_
  refine WC.condF rfl ?_
  refine WC.seq ?_
  refine WC.region ?_
  refine WL.val (Val.eql rfl rfl (beq_eq_false_iff_ne.2 (by omega))) rfl ?_
  refine WL.val (Val.assignB rfl) rfl ?_
  refine WL.nil ?_
  refine WX.thenC ?_
  refine WC.condF rfl ?_
  refine WC.seq ?_
  refine WC.region ?_
  refine WL.val (Val.eql rfl rfl (beq_eq_false_iff_ne.2 (by omega))) rfl ?_
  refine WL.val (Val.assignB rfl) rfl ?_
  refine WL.nil ?_
  refine WX.thenC ?_
  refine WC.condF rfl ?_
  refine WC.seq ?_
  refine WC.region ?_
  refine WL.val (Val.eql rfl rfl (beq_eq_false_iff_ne.2 (by omega))) rfl ?_
  refine WL.val (Val.assignB rfl) rfl ?_
  refine WL.nil ?_
  refine WX.thenC ?_
  refine WC.condF rfl ?_
  refine WC.seq ?_
  refine WC.region ?_
  refine WL.val (Val.eql rfl rfl (beq_eq_false_iff_ne.2 (by omega))) rfl ?_
  refine WL.val (Val.assignB rfl) rfl ?_
  refine WL.nil ?_
  refine WX.thenC ?_
  refine WC.condF rfl ?_
  refine WC.skip ?_
  refine WX.inNormal ?_
  refine WX.thenC ?_
  refine WC.seq ?_
  refine WC.region ?_
  refine WL.val (Val.ldO 6 rfl rfl rfl) rfl ?_
  refine WL.stA 8 rfl rfl rfl rfl ?_
  refine WL.val (Val.assignB rfl) rfl ?_
  refine WL.nil ?_
  refine WX.thenC ?_
  refine WC.ret ?_
  apply WX.doneP (ks := [0, 0, 0, 0, 0])
  case hres => exact RunRes.r2 rfl (ResIs.cellL 8 rfl rfl rfl) (ResIs.tmpB rfl)
  case hI => first | exact Mem.le.refl _ | assumption
  exact ⟨A, top, _, rfl, htv, rfl, rfl, hA, .inl rfl⟩
end Go.Proofs.Ytfdeckdongonnab

/-
  Tree, the law's play: a row of calls on both; and TreePlays.
-/

namespace Go.Tr
open Go.Sl Go.Ls
theorem Nd.find_top (n : Nd) : Nd.find n.id n = some n := by
  cases n with
  | mk j g ks => simp [Nd.find, Nd.id]
theorem Abs.find0 {A : Ar} {top : Nd} (h : Abs A top) : Nd.find 0 top = some top := by
  have := Nd.find_top top
  rw [h.id0] at this; exact this
/-- The trees that calls lead to. -/
inductive Nd.Rch : Nd → Prop where
  | start : Nd.Rch (.mk 0 true [])
  | step {A : Ar} {top top' : Nd} (h : Nd.Rch top) (hA : Abs A top) (hs : Nd.Step1 top top') : Nd.Rch top'
end Go.Tr
namespace Go.Proofs.Ytfdeckdongonnab
open Go.Sl Go.Ls Go.Tr
set_option maxRecDepth 100000
set_option maxHeartbeats 8000000
set_option linter.unusedVariables false
attribute [local irreducible] WC WL WX WK WA WAK Val Ctr RunRes ResIs Rd At sl box pt Exit.then Exit.inBlock bodyPost Code.wp wpList
/-- A tree, and the document's of it. -/
def PlayR : Value → Mem → List HP → Prop := fun v I' L' => ∃ (A : Ar) (top : Nd) (kv : Value), v = .tuple #[ptr A.b, .agg #[vi top.id, .bool top.grp, kv], .bool true] ∧ LsAt Nd.Rp I' top.kids kv ∧ L' = A.hp ∧ Abs A top ∧ Nd.Rch top
theorem tPlay (l : List Opn) (lv : Value) (I : Mem) (hlv : LsAt Opn.rep I l lv) (hsm : ∀ o ∈ l, o.nodes.length ≤ 80) (hl : l.length ≤ 1000000) :
    Ctr Try.prog 17 [lv] I [] PlayR := by
  obtain ⟨a1, c1, rfl⟩ := hlv.sl
  refine Ctr.intro Try.func17 rfl rfl rfl fun E F => ?_
  refine WC.seq ?_
  refine WC.region ?_
  refine WL.val (Val.assignP rfl) rfl ?_
  (refine WL.alloc rfl ?_; intro _)
  refine WL.nApp ?_
  refine WL.val (Val.assignB rfl) rfl ?_
  refine WL.nil ?_
  refine WX.thenC ?_
  refine WC.seq ?_
  refine WC.region ?_
  rename_i g3
  refine WL.callP [] rfl rfl (tNew _) rfl ?_
  rintro _ I1 _ hI1 ⟨rfl, b, mb, cg, rfl, rfl⟩
  have hA0 : Abs (Ar.fresh b mb cg) (.mk 0 true []) := Abs.fresh b mb cg
  have hb0 : (Ar.fresh b mb cg).b = b := rfl
  generalize Ar.fresh b mb cg = A0 at *
  subst hb0
  refine WL.nApp ?_
  refine WL.val (Val.assignP rfl) rfl ?_
  refine WL.nil ?_
  refine WX.thenC ?_
  refine WC.seq ?_
  refine WC.region ?_
  refine WL.val (Val.build (cs := [vi 0, .bool true, .slice none 0 0]) rfl) rfl ?_
  (refine WL.alloc rfl ?_; intro _)
  refine WL.nApp ?_
  refine WL.stA 7 rfl rfl rfl rfl ?_
  refine WL.nil ?_
  refine WX.thenC ?_
  refine WC.seq ?_
  refine WC.seq ?_
  refine WC.region ?_
  refine WL.val (Val.moveP rfl) rfl ?_
  rename_i g6
  refine WL.val (Val.eqlNilP rfl) rfl ?_
  refine WL.nil ?_
  refine WX.thenC ?_
  refine WC.condF rfl ?_
  refine WC.skip ?_
  refine WX.thenC ?_
  refine WC.seq ?_
  refine WC.seq ?_
  refine WC.region ?_
  refine WL.val (Val.moveS rfl) rfl ?_
  refine WL.val (Val.len rfl) rfl ?_
  refine WL.val (Val.moveI rfl) rfl ?_
  refine WL.nil ?_
  refine WX.thenC ?_
  refine WC.block ?_
  refine WC.conv (fun w h => h.sub [0, 0, 5, 0, 0, 0, 0, 0] rfl) ?_
  refine WC.loop (fun m ρ' I' L' => ∃ (k : Nat) (A : Ar) (top : Nd) (ta : Option Addr) (tc : Nat), m = l.length - k ∧ k ≤ l.length ∧ I1.le I' ∧ ρ' 3 = ptr g3 ∧ ρ' 5 = ptr A.b ∧ ρ' 6 = ptr g6 ∧ ρ' 18 = .slice a1 l.length c1 ∧ ρ' 19 = vi l.length ∧ ρ' 20 = vi k ∧ L' = F :: box g3 39 [vi 0, .bool false, .slice none 0 0] :: box g6 39 [vi top.id, .bool top.grp, .slice ta top.kids.length tc] :: A.hp ∧ LsAt Nd.Rp I' top.kids (.slice ta top.kids.length tc) ∧ Abs A top ∧ Nd.Rch top)
    l.length ⟨0, A0, _, none, 0, rfl, by omega, hI1, rfl, rfl, rfl, rfl, rfl, rfl, rfl, LsAt.nil _ _, hA0, .start⟩ ?_
  rintro m ρ' I' L' ⟨k, A, top, ta, tc, rfl, hk, hI', r3, r5, r6, r18, r19, r20, rfl, htv, hA, hr⟩
  rw [← upd_self r20, ← upd_self r19, ← upd_self r18, ← upd_self r6, ← upd_self r5, ← upd_self r3]
  clear r20 r19 r18 r6 r5 r3
  by_cases hkn : k < l.length
  · obtain ⟨b, off, cap', cs, he, hR, hAt⟩ := (hlv.mono hI').get k hkn
    cases he
    have hR0 := hR
    obtain ⟨nv, rfl, hi1, hi2, hi3, hi4, hi5, hns⟩ := hR0
    obtain ⟨a2, c2, rfl⟩ := hns.sl
    refine WC.seq ?_
    refine WC.region ?_
    refine WL.val (Val.lss rfl rfl (decide_eq_true (by omega))) rfl ?_
    refine WL.nil ?_
    refine WX.thenC ?_
    refine WC.seq ?_
    refine WC.condT rfl ?_
    refine WC.skip ?_
    refine WX.thenC ?_
    refine WC.seq ?_
    refine WC.block ?_
    refine WC.seq ?_
    refine WC.region ?_
    refine WL.val (Val.indexAddr rfl rfl (by omega) (by omega)) rfl ?_
    refine WL.val (Val.loadI rfl (by assumption) rfl) rfl ?_
    (refine WL.alloc rfl ?_; intro _)
    refine WL.nApp ?_
    refine WL.stA 8 rfl rfl rfl rfl ?_
    refine WL.nil ?_
    refine WX.thenC ?_
    refine WC.seq ?_
    refine WC.region ?_
    refine WL.val (Val.moveP rfl) rfl ?_
    refine WL.val (Val.ldO 2 rfl rfl rfl) rfl ?_
    refine WL.val (Val.ldO 8 rfl rfl rfl) rfl ?_
    rename_i g8
    refine WL.callP [3, 3, 3, 3, 3] rfl rfl (tStep A top hA _ l[k] _ _ htv hR (hsm _ (List.getElem_mem hkn))) rfl ?_
    rintro _ I2 _ hI2 ⟨B, top', kv, rfl, hkv, hb, rfl, hB, hst⟩
    obtain ⟨qa, qc, rfl⟩ := hkv.sl
    rw [← hb]
    refine WL.nApp ?_
    refine WL.val (Val.moveT rfl) rfl ?_
    refine WL.val (Val.extractA rfl rfl) rfl ?_
    refine WL.val (Val.extractB rfl rfl) rfl ?_
    (refine WL.alloc rfl ?_; intro _)
    refine WL.nApp ?_
    refine WL.stA 9 rfl rfl rfl rfl ?_
    refine WL.val (Val.assignB rfl) rfl ?_
    refine WL.nil ?_
    refine WX.thenC ?_
    refine WC.seq ?_
    refine WC.region ?_
    refine WL.val (Val.ldO 9 rfl rfl rfl) rfl ?_
    refine WL.stA 2 rfl rfl rfl rfl ?_
    refine WL.nil ?_
    refine WX.thenC ?_
    refine WC.seq ?_
    refine WC.region ?_
    refine WL.val (Val.moveP rfl) rfl ?_
    rename_i g9
    refine WL.callR [4, 4, 4, 4, 4] rfl rfl rfl (aNode B top' hB 0 _) rfl ?_
    rintro _ I3 hI3 ⟨_, rfl, kn, rfl, hkn, hin⟩
    rw [hB.find0] at hkn hin ⊢
    simp only [Option.isSome, Option.getD] at hkn hin ⊢
    obtain ⟨na, nc, rfl⟩ := hkn.sl
    refine WL.val (Val.moveT rfl) rfl ?_
    refine WL.val (Val.extractA rfl rfl) rfl ?_
    refine WL.val (Val.extractB rfl rfl) rfl ?_
    (refine WL.alloc rfl ?_; intro _)
    refine WL.nApp ?_
    refine WL.conv (fun w h => h.sub [0, 0, 0, 7, 1, 1, 1, 1, 1] rfl) ?_
    refine WL.stA 3 rfl rfl rfl rfl ?_
    refine WL.val (Val.assignB rfl) rfl ?_
    refine WL.nil ?_
    refine WX.thenC ?_
    refine WC.seq ?_
    refine WC.drawK 999 I3 [2, 2] rfl (by kernel_rfl) rfl rfl ?_
    refine WA.take 0 rfl (by kernel_rfl) rfl (fun w h => (h.sub [2, 2] rfl)) (Val.moveB rfl) rfl ?_
    refine WA.take 1 rfl (by kernel_rfl) rfl (fun w h => (h.sub [2, 2] rfl)) (Val.not rfl) rfl ?_
    refine WA.take 2 rfl (by kernel_rfl) rfl (fun w h => (h.sub [2, 2] rfl)) (Val.moveB rfl) rfl ?_
    refine WA.takeGT 3 rfl (by kernel_rfl) rfl (fun w h => (h.sub [2, 2] rfl)) rfl rfl (Val.moveB rfl) rfl ?_
    refine WA.takeGT 4 rfl (by kernel_rfl) rfl (fun w h => (h.sub [2, 2] rfl)) rfl rfl (Val.not rfl) rfl ?_
    refine WA.take 5 rfl (by kernel_rfl) rfl (fun w h => (h.sub [2, 2] rfl)) (Val.pick rfl) rfl ?_
    refine WA.take 6 rfl (by kernel_rfl) rfl (fun w h => (h.sub [2, 2] rfl)) (Val.moveB rfl) rfl ?_
    refine WA.takeGT 7 rfl (by kernel_rfl) rfl (fun w h => (h.sub [2, 2] rfl)) rfl rfl (Val.ldO 1 rfl rfl rfl) rfl ?_
    refine WA.takeGT 8 rfl (by kernel_rfl) rfl (fun w h => (h.sub [2, 2] rfl)) rfl rfl (Val.ldO 0 rfl rfl rfl) rfl ?_
    refine WA.eff1 (i := 9) (by kernel_rfl) rfl rfl ?_
    refine WL.gT rfl rfl ?_
    refine WL.callE rfl rfl (rSame _ _ (Nat.le_refl _) _ _ _ _ (by have := hB.size_le; omega) hin hkn hin (hkv.mono hI3)) rfl (fun h => ?_) (fun h => absurd rfl h)
    refine WL.nil ?_
    refine WK.anyStep (fun w h => (h.sub [2, 2] rfl)) ?_
    refine WA.takeGT 10 rfl (by kernel_rfl) rfl (fun w h => (h.sub [2, 2] rfl)) rfl rfl (Val.not rfl) rfl ?_
    refine WA.take 11 rfl (by kernel_rfl) rfl (fun w h => (h.sub [2, 2] rfl)) (Val.pick rfl) rfl ?_
    refine WA.take 12 rfl (by kernel_rfl) rfl (fun w h => (h.sub [2, 2] rfl)) (Val.moveB rfl) rfl ?_
    refine WA.takeGT 13 rfl (by kernel_rfl) rfl (fun w h => (h.sub [2, 2] rfl)) rfl rfl (Val.moveP rfl) rfl ?_
    refine WA.takeGT 15 rfl (by kernel_rfl) rfl (fun w h => (h.sub [2, 2] rfl)) rfl rfl (Val.ldO 0 rfl rfl rfl) rfl ?_
    refine WA.eff1 (i := 14) (by kernel_rfl) rfl rfl ?_
    refine WL.gT rfl rfl ?_
    refine WL.callK [4, 4, 4, 4, 4] rfl rfl rfl (aCount B top' hB _) rfl ?_
    rintro _ rfl
    refine WL.nil ?_
    refine WK.anyStep (fun w h => (h.sub [2, 2] rfl)) ?_
    refine WA.eff1 (i := 16) (by kernel_rfl) rfl rfl ?_
    refine WL.gT rfl rfl ?_
    refine WL.callS rfl rfl (rSize _ top' (Nat.le_refl _) _ _ (by have := hB.size_le; omega) hin (hkv.mono hI3)) rfl ?_
    rintro _ rfl
    refine WL.nil ?_
    refine WK.anyStep (fun w h => (h.sub [2, 2] rfl)) ?_
    have hz := hB.size_le
    refine WA.takeGT 17 rfl (by kernel_rfl) rfl (fun w h => (h.sub [2, 2] rfl)) rfl rfl (Val.sub rfl rfl (wrap_i64 (by omega) (by omega))) rfl ?_
    refine WA.takeGT 18 rfl (by kernel_rfl) rfl (fun w h => (h.sub [2, 2] rfl)) rfl rfl (Val.neq rfl rfl (bne_eq_false_iff_eq.2 (by omega))) rfl ?_
    refine WA.take 19 rfl (by kernel_rfl) rfl (fun w h => (h.sub [2, 2] rfl)) (Val.pick rfl) rfl ?_
    refine WA.done (by kernel_rfl) ?_
    refine WX.thenC ?_
    refine WC.condF rfl ?_
    refine WC.skip ?_
    refine WX.inNormal ?_
    refine WX.thenC ?_
    refine WC.region ?_
    refine WL.val (Val.add rfl rfl (wrap_i64 (by omega) (by omega))) rfl ?_
    refine WL.val (Val.moveI rfl) rfl ?_
    refine WL.nil ?_
    refine WX.conv (fun w h => h.sub [0, 0, 0, 1, 1, 1, 1, 1] rfl) ?_
    refine WX.thenK (WK.round (l.length - (k + 1)) (by omega) ⟨k + 1, B, top', qa, qc, rfl, by omega, hI'.trans (hI2.trans hI3), rfl, rfl, rfl, rfl, rfl, rfl, rfl, hkv.mono hI3, hB, hr.step hA hst⟩)
  · have hkl : k = l.length := by omega
    subst hkl
    refine WC.seq ?_
    refine WC.region ?_
    refine WL.val (Val.lss rfl rfl (decide_eq_false (by omega))) rfl ?_
    refine WL.nil ?_
    refine WX.thenC ?_
    refine WC.seq ?_
    refine WC.condF rfl ?_
    refine WC.exit ?_
    refine WX.thenExit ?_
    refine WX.thenExit ?_
    refine WX.inHit ?_
    refine WX.thenC ?_
    refine WC.seq ?_
    refine WC.drawK 999 I' [2] rfl (by kernel_rfl) rfl rfl ?_
    refine WA.take 0 rfl (by kernel_rfl) rfl (fun w h => (h.sub [2] rfl)) (Val.moveP rfl) rfl ?_
    refine WA.take 1 rfl (by kernel_rfl) rfl (fun w h => (h.sub [2] rfl)) (Val.ldO 0 rfl rfl rfl) rfl ?_
    refine WA.take 2 rfl (by kernel_rfl) rfl (fun w h => (h.sub [2] rfl)) (Val.assignP rfl) rfl ?_
    refine WA.eff1 (i := 3) (by kernel_rfl) rfl rfl ?_
    refine WL.stA 1 rfl rfl rfl rfl ?_
    refine WL.nil ?_
    refine WK.anyStep (fun w h => (h.sub [2] rfl)) ?_
    refine WA.take 4 rfl (by kernel_rfl) rfl (fun w h => (h.sub [2] rfl)) (Val.assignB rfl) rfl ?_
    refine WA.done (by kernel_rfl) ?_
    refine WX.thenC ?_
    refine WC.ret ?_
    have hJ := hI'
    apply WX.doneP (ks := [2, 2, 2, 2, 2])
    case hres => exact RunRes.r3 rfl (ResIs.tmpP rfl) (ResIs.cellL 1 rfl rfl rfl) (ResIs.tmpB rfl)
    case hI => first | exact Mem.le.refl _ | assumption
    exact ⟨A, top, _, rfl, htv, rfl, hA, hr⟩
theorem tPlays (l : List Opn) (lv : Value) (I : Mem) (hlv : LsAt Opn.rep I l lv) :
    Ctr Try.prog 4 [lv] I [] (KeepR [] fun v _ => v = .bool true) := by
  obtain ⟨a1, c1, rfl⟩ := hlv.sl
  refine Ctr.intro Try.func4 rfl rfl rfl fun E F => ?_
  refine WC.seq ?_
  refine WC.region ?_
  refine WL.val (Val.assignB rfl) rfl ?_
  refine WL.nil ?_
  refine WX.thenC ?_
  refine WC.seq ?_
  refine WC.seq ?_
  refine WC.region ?_
  refine WL.val (Val.moveS rfl) rfl ?_
  refine WL.callE rfl rfl (rSmall l _ _ hlv) rfl (fun hs => ?_) (fun hs => ?_)
  · skip
    refine WL.val (Val.not rfl) rfl ?_
    refine WL.nil ?_
    refine WX.thenC ?_
    refine WC.condF rfl ?_
    refine WC.skip ?_
    refine WX.thenC ?_
    refine WC.seq ?_
    refine WC.region ?_
    refine WL.val (Val.moveS rfl) rfl ?_
    refine WL.callP [] rfl rfl (tPlay l _ _ hlv hs.2 (by have := hs.1; omega)) rfl ?_
    rintro _ I1 _ hI1 ⟨A, top, kv, rfl, hkv, rfl, hA, _⟩
    obtain ⟨ka, kc, rfl⟩ := hkv.sl
    refine WL.nApp ?_
    refine WL.val (Val.moveT rfl) rfl ?_
    refine WL.val (Val.extractP rfl rfl) rfl ?_
    refine WL.val (Val.extractA rfl rfl) rfl ?_
    refine WL.val (Val.extractB rfl rfl) rfl ?_
    (refine WL.alloc rfl ?_; intro _)
    refine WL.nApp ?_
    refine WL.val (Val.assignP rfl) rfl ?_
    refine WL.stA 6 rfl rfl rfl rfl ?_
    refine WL.val (Val.assignB rfl) rfl ?_
    refine WL.nil ?_
    refine WX.thenC ?_
    refine WC.seq ?_
    refine WC.region ?_
    refine WL.val (Val.moveB rfl) rfl ?_
    refine WL.val (Val.moveB rfl) rfl ?_
    refine WL.gT rfl rfl ?_
    refine WL.callP [] rfl rfl (tAwake _) rfl ?_
    rintro _ I2 _ hI2 ⟨rfl, rfl⟩
    refine WL.nApp ?_
    have hJ := hI1.trans hI2
    refine WL.val (Val.pick rfl) rfl ?_
    refine WL.val (Val.assignB rfl) rfl ?_
    refine WL.nil ?_
    refine WX.thenC ?_
    refine WC.ret ?_
    apply WX.doneP (ks := [])
    case hres => exact RunRes.r1 rfl (ResIs.tmpB rfl)
    case hI => first | exact Mem.le.refl _ | assumption
    exact ⟨rfl, rfl⟩
  · skip
    refine WL.val (Val.not rfl) rfl ?_
    refine WL.nil ?_
    refine WX.thenC ?_
    refine WC.condT rfl ?_
    refine WC.seq ?_
    refine WC.region ?_
    refine WL.callP [] rfl rfl (tAwake _) rfl ?_
    rintro _ I2 _ hI2 ⟨rfl, rfl⟩
    refine WL.nApp ?_
    refine WL.val (Val.assignB rfl) rfl ?_
    refine WL.nil ?_
    refine WX.thenC ?_
    refine WC.ret ?_
    refine WX.thenRet ?_
    apply WX.doneP (ks := [])
    case hres => exact RunRes.r1 rfl (ResIs.tmpB rfl)
    case hI => first | exact Mem.le.refl _ | assumption
    exact ⟨rfl, rfl⟩
end Go.Proofs.Ytfdeckdongonnab
