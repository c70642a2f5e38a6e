/-
  Code, the walks: segments, matrices.
-/
import Derived.Test.YtfdeckdongonnaaDoorC6
namespace Go.Proofs.YtfdeckdongonnaaDoor
open Go.Sl Go.Cd
set_option maxRecDepth 100000
set_option maxHeartbeats 4000000
set_option linter.unusedVariables false
attribute [local irreducible] WC WL WX WK WA WAK Val Ctr RunRes ResIs Rd At sl box pt Exit.then Exit.inBlock bodyPost Code.wp wpList
theorem need_le (n : Int) : need n ≤ 3 := by unfold need; split; · omega
                                             split; · omega
                                             split <;> omega
/-- Three points, the rest of them zero. -/
def seg3 (n : Int) (p : List Pt) : Sg := ⟨n, (p[0]?).getD Pt.z, (p[1]?).getD Pt.z, (p[2]?).getD Pt.z⟩
theorem seg_ctr (c b : Nat) (sv : Value) (b2 b1 : Bool) (bs : Bs) (I : Mem) (hN : NeedAt I) (hb : Byt I sv bs) :
    Ctr Tryd.prog 59 [ptr c] I (inL c b sv b2 b1) (RdP agg Sg.rep Sg.w Sg.plain c b (st b1 b2 bs)) := by
  refine Ctr.intro Tryd.func59 rfl rfl rfl fun E F => ?_
  refine WC.seq ?_
  refine WC.region ?_
  (refine WL.alloc rfl ?_; intro _)
  refine WL.nApp ?_
  refine WL.nil ?_
  refine WX.thenC ?_
  refine WC.seq ?_
  refine WC.region ?_
  refine WL.val (Val.moveP rfl) rfl ?_
  refine WL.val (Val.nilCheckP rfl) rfl ?_
  refine WL.val (Val.fldAddr rfl) rfl ?_
  refine WL.val (Val.loadS rfl (Rd.own1 1 rfl rfl)) rfl ?_
  refine WL.callP [2] rfl rfl (inInt b sv b1 bs I hb) rfl ?_
  rintro _ I0 _ - ⟨rfl, n, sv1, c1, bs1, rfl, hn, rfl, hB1, hR1⟩
  have hpick : ∀ {z : Sg} {s2 : Option Bs}, Reads (fun s : Sg => (([s.p0, s.p1, s.p2].take (need s.kind)).map Pt.w).flatten) (fun s => s.plain ∧ s.kind = n) (st c1 b2 bs1) z s2 → Reads Sg.w Sg.plain (st b1 b2 bs) z s2 :=
    fun h => (hR1.lift b2).pick Sg.kind _ (fun s hs => ⟨rfl, by have := hs.1; have := hs.2.1; unfold I64; omega⟩) h
  by_cases hc1 : n < 1
  · have hz : need n = 0 := by unfold need; rw [if_neg (by omega), if_neg (by omega), if_neg (by omega)]
    refine WL.nApp ?_
    refine WL.val (Val.fldAddr rfl) rfl ?_
    refine WL.stI 2 rfl rfl rfl rfl ?_
    refine WL.nil ?_
    refine WX.thenC ?_
    refine WC.seq ?_
    refine WC.seq ?_
    refine WC.region ?_
    refine WL.val (Val.fldAddr rfl) rfl ?_
    refine WL.val (Val.loadS rfl (Rd.own1 2 rfl rfl)) rfl ?_
    refine WL.val (Val.lss rfl rfl (decide_eq_true (by omega))) rfl ?_
    refine WL.val (Val.moveB rfl) rfl ?_
    refine WL.gF rfl rfl rfl rfl ?_
    refine WL.gF rfl rfl rfl rfl ?_
    refine WL.gF rfl rfl rfl rfl ?_
    refine WL.val (Val.pick rfl) rfl ?_
    refine WL.nil ?_
    refine WX.thenC ?_
    refine WC.condT rfl ?_
    refine WC.region ?_
    refine WL.val (Val.moveP rfl) rfl ?_
    refine WL.callP [1, 2] rfl rfl (fail_ctr c b sv1 b2 c1 _) rfl ?_
    rintro _ _ _ - ⟨rfl, rfl⟩
    refine WL.nApp ?_
    refine WL.nil ?_
    refine WX.thenC ?_
    refine WC.seq ?_
    refine WC.seq ?_
    refine WC.region ?_
    refine WL.val (Val.fldAddr rfl) rfl ?_
    refine WL.val (Val.loadS rfl (Rd.own1 1 rfl rfl)) rfl ?_
    refine WL.callS rfl rfl (need_ctr n _ hN) rfl ?_
    rintro _ rfl
    rw [hz]
    refine WL.val (Val.moveI rfl) rfl ?_
    refine WL.nil ?_
    refine WX.thenC ?_
    refine WC.block ?_
    refine WC.loop (fun m ρ' I' L' => I' = _ ∧ ρ' 2 = _ ∧ ρ' 22 = vi (0 : Nat) ∧ ρ' 23 = vi 0 ∧ L' = _) 0 ⟨rfl, rfl, rfl, rfl, rfl⟩ ?_
    rintro m ρ' I' L' ⟨rfl, h2, h22, h23, rfl⟩
    rw [← upd_self h23, ← upd_self h22, ← upd_self h2]
    clear h23 h22 h2
    refine WC.seq ?_
    refine WC.region ?_
    refine WL.val (Val.lss rfl rfl (decide_eq_false (by omega))) rfl ?_
    refine WL.nil ?_
    refine WX.thenC ?_
    refine WC.seq ?_
    refine WC.condF rfl ?_
    refine WC.exit ?_
    refine WX.thenExit ?_
    refine WX.thenExit ?_
    refine WX.inHit ?_
    refine WX.thenC ?_
    refine WC.seq ?_
    refine WC.region ?_
    refine WL.val (Val.ldO 1 rfl rfl rfl) rfl ?_
    refine WL.stA 1 rfl rfl rfl rfl ?_
    refine WL.nil ?_
    refine WX.thenC ?_
    refine WC.ret ?_
    apply WX.doneP (ks := [1, 1])
    case hres => exact RunRes.r1 rfl (ResIs.cellL 1 rfl rfl rfl)
    case hI => first | exact Mem.le.refl _ | assumption
    refine ⟨⟨n, Pt.z, Pt.z, Pt.z⟩, _, sv1, true, c1, bs1, rfl, ⟨rfl, hn, Pt.z_ok, Pt.z_ok, Pt.z_ok⟩, rfl, hB1, hpick ?_⟩
    rw [show st c1 true bs1 = none by simp [st]]
    refine Reads.bad ?_
    rintro s r ⟨hp, hk⟩ _
    have := hp.1
    have := hp.2.1
    omega
  by_cases hc5 : n > 5
  · have hz : need n = 0 := by unfold need; rw [if_neg (by omega), if_neg (by omega), if_neg (by omega)]
    refine WL.nApp ?_
    refine WL.val (Val.fldAddr rfl) rfl ?_
    refine WL.stI 2 rfl rfl rfl rfl ?_
    refine WL.nil ?_
    refine WX.thenC ?_
    refine WC.seq ?_
    refine WC.seq ?_
    refine WC.region ?_
    refine WL.val (Val.fldAddr rfl) rfl ?_
    refine WL.val (Val.loadS rfl (Rd.own1 2 rfl rfl)) rfl ?_
    refine WL.val (Val.lss rfl rfl (decide_eq_false (by omega))) rfl ?_
    refine WL.val (Val.moveB rfl) rfl ?_
    refine WL.gT rfl rfl ?_
    refine WL.val (Val.fldAddr rfl) rfl ?_
    refine WL.gT rfl rfl ?_
    refine WL.val (Val.loadS rfl (Rd.own1 2 rfl rfl)) rfl ?_
    refine WL.gT rfl rfl ?_
    refine WL.val (Val.gtr rfl rfl (decide_eq_true (by omega))) rfl ?_
    refine WL.val (Val.pick rfl) rfl ?_
    refine WL.nil ?_
    refine WX.thenC ?_
    refine WC.condT rfl ?_
    refine WC.region ?_
    refine WL.val (Val.moveP rfl) rfl ?_
    refine WL.callP [1, 2] rfl rfl (fail_ctr c b sv1 b2 c1 _) rfl ?_
    rintro _ _ _ - ⟨rfl, rfl⟩
    refine WL.nApp ?_
    refine WL.nil ?_
    refine WX.thenC ?_
    refine WC.seq ?_
    refine WC.seq ?_
    refine WC.region ?_
    refine WL.val (Val.fldAddr rfl) rfl ?_
    refine WL.val (Val.loadS rfl (Rd.own1 1 rfl rfl)) rfl ?_
    refine WL.callS rfl rfl (need_ctr n _ hN) rfl ?_
    rintro _ rfl
    rw [hz]
    refine WL.val (Val.moveI rfl) rfl ?_
    refine WL.nil ?_
    refine WX.thenC ?_
    refine WC.block ?_
    refine WC.loop (fun m ρ' I' L' => I' = _ ∧ ρ' 2 = _ ∧ ρ' 22 = vi (0 : Nat) ∧ ρ' 23 = vi 0 ∧ L' = _) 0 ⟨rfl, rfl, rfl, rfl, rfl⟩ ?_
    rintro m ρ' I' L' ⟨rfl, h2, h22, h23, rfl⟩
    rw [← upd_self h23, ← upd_self h22, ← upd_self h2]
    clear h23 h22 h2
    refine WC.seq ?_
    refine WC.region ?_
    refine WL.val (Val.lss rfl rfl (decide_eq_false (by omega))) rfl ?_
    refine WL.nil ?_
    refine WX.thenC ?_
    refine WC.seq ?_
    refine WC.condF rfl ?_
    refine WC.exit ?_
    refine WX.thenExit ?_
    refine WX.thenExit ?_
    refine WX.inHit ?_
    refine WX.thenC ?_
    refine WC.seq ?_
    refine WC.region ?_
    refine WL.val (Val.ldO 1 rfl rfl rfl) rfl ?_
    refine WL.stA 1 rfl rfl rfl rfl ?_
    refine WL.nil ?_
    refine WX.thenC ?_
    refine WC.ret ?_
    apply WX.doneP (ks := [1, 1])
    case hres => exact RunRes.r1 rfl (ResIs.cellL 1 rfl rfl rfl)
    case hI => first | exact Mem.le.refl _ | assumption
    refine ⟨⟨n, Pt.z, Pt.z, Pt.z⟩, _, sv1, true, c1, bs1, rfl, ⟨rfl, hn, Pt.z_ok, Pt.z_ok, Pt.z_ok⟩, rfl, hB1, hpick ?_⟩
    rw [show st c1 true bs1 = none by simp [st]]
    refine Reads.bad ?_
    rintro s r ⟨hp, hk⟩ _
    have := hp.1
    have := hp.2.1
    omega
  have hn3 := need_le n
  refine WL.nApp ?_
  refine WL.val (Val.fldAddr rfl) rfl ?_
  refine WL.stI 2 rfl rfl rfl rfl ?_
  refine WL.nil ?_
  refine WX.thenC ?_
  refine WC.seq ?_
  refine WC.seq ?_
  refine WC.region ?_
  refine WL.val (Val.fldAddr rfl) rfl ?_
  refine WL.val (Val.loadS rfl (Rd.own1 2 rfl rfl)) rfl ?_
  refine WL.val (Val.lss rfl rfl (decide_eq_false (by omega))) rfl ?_
  refine WL.val (Val.moveB rfl) rfl ?_
  refine WL.gT rfl rfl ?_
  refine WL.val (Val.fldAddr rfl) rfl ?_
  refine WL.gT rfl rfl ?_
  refine WL.val (Val.loadS rfl (Rd.own1 2 rfl rfl)) rfl ?_
  refine WL.gT rfl rfl ?_
  refine WL.val (Val.gtr rfl rfl (decide_eq_false (by omega))) rfl ?_
  refine WL.val (Val.pick rfl) rfl ?_
  refine WL.nil ?_
  refine WX.thenC ?_
  refine WC.condF rfl ?_
  refine WC.skip ?_
  refine WX.thenC ?_
  refine WC.seq ?_
  refine WC.seq ?_
  refine WC.region ?_
  refine WL.val (Val.fldAddr rfl) rfl ?_
  refine WL.val (Val.loadS rfl (Rd.own1 2 rfl rfl)) rfl ?_
  refine WL.callS rfl rfl (need_ctr n _ hN) rfl ?_
  rintro _ rfl
  refine WL.val (Val.moveI rfl) rfl ?_
  refine WL.nil ?_
  refine WX.thenC ?_
  refine WC.block ?_
  rename_i g
  refine WC.loop (fun m ρ' I' L' => ∃ j : Nat, ∃ p : List Pt, m = need n - j ∧ j ≤ need n ∧ I0.le I' ∧ p.length = j ∧ ρ' 0 = ptr c ∧ ρ' 2 = ptr g ∧ ρ' 22 = vi (need n) ∧ ρ' 23 = vi j ∧ ∃ sv' d2 d1 bs',
      L' = [F, box c 103 [ptr b, .bool d2], box g 44 (seg3 n p).cs, box b 132 [sv', .bool d1]] ∧ Byt I' sv' bs' ∧ (∀ x ∈ p, x.ok) ∧ Reads (fun l : List Pt => (l.map Pt.w).flatten) (fun l => l.length = j ∧ ∀ x ∈ l, x.ok) (st c1 b2 bs1) p (st d1 d2 bs'))
    (need n) ⟨0, [], rfl, by omega, Mem.le.refl _, rfl, rfl, rfl, rfl, rfl, sv1, b2, c1, bs1, rfl, hB1, (fun _ h => nomatch h), Reads.start⟩ ?_
  rintro m ρ' I' L' ⟨j, p, rfl, hj, hI0, rfl, h0, h2, h22, h23, sv', d2, d1, bs', rfl, hB, hok, hR⟩
  rw [← upd_self h23, ← upd_self h22, ← upd_self h2, ← upd_self h0]
  clear h23 h22 h2 h0
  by_cases hlt : p.length < need n
  · match p, hj, hok, hR, hlt with
    | [], hj, hok, hR, hlt =>
      refine WC.seq ?_
      refine WC.region ?_
      refine WL.val (Val.lss rfl rfl (decide_eq_true (by omega))) rfl ?_
      refine WL.nil ?_
      refine WX.thenC ?_
      refine WC.seq ?_
      refine WC.condT rfl ?_
      refine WC.skip ?_
      refine WX.thenC ?_
      refine WC.seq ?_
      refine WC.block ?_
      refine WC.seq ?_
      refine WC.region ?_
      refine WL.val (Val.moveI rfl) rfl ?_
      refine WL.val (Val.assignI rfl) rfl ?_
      refine WL.nil ?_
      refine WX.thenC ?_
      refine WC.region ?_
      refine WL.val (Val.moveI rfl) rfl ?_
      refine WL.val (Val.moveP rfl) rfl ?_
      refine WL.callP [1, 2] rfl rfl (point_ctr c b sv' d2 d1 bs' _ hB) rfl ?_
      rintro _ I2 _ hI2 ⟨x, _, sv2, e2, e1, bs2, rfl, ⟨rfl, hx⟩, rfl, hB2, hR2⟩
      refine WL.nApp ?_
      refine WL.val (Val.fldAddr rfl) rfl ?_
      refine WL.val (Val.indexAddrA rfl rfl (by omega) (by omega)) rfl ?_
      refine WL.store 1 rfl rfl rfl ?_
      refine WL.nSet ?_
      refine WL.nil ?_
      refine WX.inNormal ?_
      refine WX.thenC ?_
      refine WC.region ?_
      refine WL.val (Val.add rfl rfl (wrap_i64 (by omega) (by omega))) rfl ?_
      refine WL.val (Val.moveI rfl) rfl ?_
      refine WL.nil ?_
      refine WX.conv (fun w h => h.sub [0, 1, 0, 0] rfl) ?_
      have hok' : ∀ y ∈ [x], Pt.ok y := by
        intro y hy
        simp only [List.mem_cons, List.not_mem_nil, or_false] at hy
        rcases hy with rfl
        · exact hx
      refine WX.thenK (WK.round (need n - 1) (by simp at hj hlt ⊢; omega) ⟨1, [x], rfl, by simp at hlt; omega, hI0.trans hI2, rfl, rfl, rfl, rfl, rfl, sv2, e2, e1, bs2, rfl, hB2, hok', hR.snoc hR2⟩)
    | [p0], hj, hok, hR, hlt =>
      refine WC.seq ?_
      refine WC.region ?_
      refine WL.val (Val.lss rfl rfl (decide_eq_true (by omega))) rfl ?_
      refine WL.nil ?_
      refine WX.thenC ?_
      refine WC.seq ?_
      refine WC.condT rfl ?_
      refine WC.skip ?_
      refine WX.thenC ?_
      refine WC.seq ?_
      refine WC.block ?_
      refine WC.seq ?_
      refine WC.region ?_
      refine WL.val (Val.moveI rfl) rfl ?_
      refine WL.val (Val.assignI rfl) rfl ?_
      refine WL.nil ?_
      refine WX.thenC ?_
      refine WC.region ?_
      refine WL.val (Val.moveI rfl) rfl ?_
      refine WL.val (Val.moveP rfl) rfl ?_
      refine WL.callP [1, 2] rfl rfl (point_ctr c b sv' d2 d1 bs' _ hB) rfl ?_
      rintro _ I2 _ hI2 ⟨x, _, sv2, e2, e1, bs2, rfl, ⟨rfl, hx⟩, rfl, hB2, hR2⟩
      refine WL.nApp ?_
      refine WL.val (Val.fldAddr rfl) rfl ?_
      refine WL.val (Val.indexAddrA rfl rfl (by omega) (by omega)) rfl ?_
      refine WL.store 1 rfl rfl rfl ?_
      refine WL.nSet ?_
      refine WL.nil ?_
      refine WX.inNormal ?_
      refine WX.thenC ?_
      refine WC.region ?_
      refine WL.val (Val.add rfl rfl (wrap_i64 (by omega) (by omega))) rfl ?_
      refine WL.val (Val.moveI rfl) rfl ?_
      refine WL.nil ?_
      refine WX.conv (fun w h => h.sub [0, 1, 0, 0] rfl) ?_
      have hok' : ∀ y ∈ [p0, x], Pt.ok y := by
        intro y hy
        simp only [List.mem_cons, List.not_mem_nil, or_false] at hy
        rcases hy with rfl | rfl
        · exact hok _ (by simp)
        · exact hx
      refine WX.thenK (WK.round (need n - 2) (by simp at hj hlt ⊢; omega) ⟨2, [p0, x], rfl, by simp at hlt; omega, hI0.trans hI2, rfl, rfl, rfl, rfl, rfl, sv2, e2, e1, bs2, rfl, hB2, hok', hR.snoc hR2⟩)
    | [p0, p1], hj, hok, hR, hlt =>
      refine WC.seq ?_
      refine WC.region ?_
      refine WL.val (Val.lss rfl rfl (decide_eq_true (by omega))) rfl ?_
      refine WL.nil ?_
      refine WX.thenC ?_
      refine WC.seq ?_
      refine WC.condT rfl ?_
      refine WC.skip ?_
      refine WX.thenC ?_
      refine WC.seq ?_
      refine WC.block ?_
      refine WC.seq ?_
      refine WC.region ?_
      refine WL.val (Val.moveI rfl) rfl ?_
      refine WL.val (Val.assignI rfl) rfl ?_
      refine WL.nil ?_
      refine WX.thenC ?_
      refine WC.region ?_
      refine WL.val (Val.moveI rfl) rfl ?_
      refine WL.val (Val.moveP rfl) rfl ?_
      refine WL.callP [1, 2] rfl rfl (point_ctr c b sv' d2 d1 bs' _ hB) rfl ?_
      rintro _ I2 _ hI2 ⟨x, _, sv2, e2, e1, bs2, rfl, ⟨rfl, hx⟩, rfl, hB2, hR2⟩
      refine WL.nApp ?_
      refine WL.val (Val.fldAddr rfl) rfl ?_
      refine WL.val (Val.indexAddrA rfl rfl (by omega) (by omega)) rfl ?_
      refine WL.store 1 rfl rfl rfl ?_
      refine WL.nSet ?_
      refine WL.nil ?_
      refine WX.inNormal ?_
      refine WX.thenC ?_
      refine WC.region ?_
      refine WL.val (Val.add rfl rfl (wrap_i64 (by omega) (by omega))) rfl ?_
      refine WL.val (Val.moveI rfl) rfl ?_
      refine WL.nil ?_
      refine WX.conv (fun w h => h.sub [0, 1, 0, 0] rfl) ?_
      have hok' : ∀ y ∈ [p0, p1, x], Pt.ok y := by
        intro y hy
        simp only [List.mem_cons, List.not_mem_nil, or_false] at hy
        rcases hy with rfl | rfl | rfl
        · exact hok _ (by simp)
        · exact hok _ (by simp)
        · exact hx
      refine WX.thenK (WK.round (need n - 3) (by simp at hj hlt ⊢; omega) ⟨3, [p0, p1, x], rfl, by simp at hlt; omega, hI0.trans hI2, rfl, rfl, rfl, rfl, rfl, sv2, e2, e1, bs2, rfl, hB2, hok', hR.snoc hR2⟩)
    | _ :: _ :: _ :: _, hj, hok, hR, hlt => simp at hlt; omega
  · skip
    refine WC.seq ?_
    refine WC.region ?_
    refine WL.val (Val.lss rfl rfl (decide_eq_false (by omega))) rfl ?_
    refine WL.nil ?_
    refine WX.thenC ?_
    refine WC.seq ?_
    refine WC.condF rfl ?_
    refine WC.exit ?_
    refine WX.thenExit ?_
    refine WX.thenExit ?_
    refine WX.inHit ?_
    refine WX.thenC ?_
    refine WC.seq ?_
    refine WC.region ?_
    refine WL.val (Val.ldO 2 rfl rfl rfl) rfl ?_
    refine WL.stA 2 rfl rfl rfl rfl ?_
    refine WL.nil ?_
    refine WX.thenC ?_
    refine WC.ret ?_
    apply WX.doneP (ks := [0, 1])
    case hres => exact RunRes.r1 rfl (ResIs.cellL 2 rfl rfl rfl)
    case hI => first | exact Mem.le.refl _ | assumption
    have hl : p.length = need n := by omega
    have hok3 : (seg3 n p).p0.ok ∧ (seg3 n p).p1.ok ∧ (seg3 n p).p2.ok := by
      have : ∀ i : Nat, ((p[i]?).getD Pt.z).ok := by
        intro i
        cases h : p[i]? with
        | none => exact Pt.z_ok
        | some x => exact hok x (List.mem_of_getElem? h)
      exact ⟨this 0, this 1, this 2⟩
    refine ⟨seg3 n p, _, sv', d2, d1, bs', rfl, ⟨rfl, hn, hok3⟩, rfl, hB, hpick (hR.map (fun s => [s.p0, s.p1, s.p2].take (need s.kind)) ?_ ?_ ?_)⟩
    · rintro s ⟨hs, rfl⟩
      refine ⟨rfl, by simp; omega, fun x hx => ?_⟩
      have := List.mem_of_mem_take hx
      simp only [List.mem_cons, List.not_mem_nil, or_false] at this
      obtain ⟨_, _, o0, o1, o2, _⟩ := hs
      rcases this with rfl | rfl | rfl <;> assumption
    · rintro -
      have htake : [(seg3 n p).p0, (seg3 n p).p1, (seg3 n p).p2].take (need (seg3 n p).kind) = p := by
        show [(seg3 n p).p0, (seg3 n p).p1, (seg3 n p).p2].take (need n) = p
        rw [← hl]
        match p, hl with
        | [], _ => rfl
        | [_], _ => rfl
        | [_, _], _ => rfl
        | [_, _, _], _ => rfl
        | _ :: _ :: _ :: _ :: _, h => simp at h; omega
      refine ⟨⟨⟨by show 1 ≤ n; omega, by show n ≤ 5; omega, hok3.1, hok3.2.1, hok3.2.2, fun h => ?_, fun h => ?_, fun h => ?_⟩, rfl⟩, htake⟩
      all_goals
        have h' : need n ≤ _ := h
        show (p[_]?).getD Pt.z = Pt.z
        rw [List.getElem?_eq_none (by omega)]
        rfl
    · rintro ⟨k, p0, p1, p2⟩ ⟨hs, rfl⟩ rfl
      obtain ⟨_, _, _, _, _, z0, z1, z2⟩ := hs
      simp only at z0 z1 z2 hn3
      show seg3 k _ = _
      generalize need k = m at *
      match m, hn3 with
      | 0, _ => rw [z0 (by omega), z1 (by omega), z2 (by omega)]; rfl
      | 1, _ => rw [z1 (by omega), z2 (by omega)]; rfl
      | 2, _ => rw [z2 (by omega)]; rfl
      | 3, _ => rfl
end Go.Proofs.YtfdeckdongonnaaDoor
