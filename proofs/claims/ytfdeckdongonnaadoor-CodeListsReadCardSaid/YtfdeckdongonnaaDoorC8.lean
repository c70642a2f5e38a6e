/-
  Code, the walks: matrices, attributes, entries.
-/
import Derived.Test.YtfdeckdongonnaaDoorC7
namespace Go.Proofs.YtfdeckdongonnaaDoor
open Go.Sl Go.Cd
set_option maxRecDepth 100000
set_option maxHeartbeats 4000000
set_option linter.unusedVariables false
attribute [local irreducible] WC WL WX WK WA WAK Val Ctr RunRes ResIs Rd At sl box pt Exit.then Exit.inBlock bodyPost Code.wp wpList
def mtx6 (p : List Int) : Mtx := ⟨(p[0]?).getD 0, (p[1]?).getD 0, (p[2]?).getD 0, (p[3]?).getD 0, (p[4]?).getD 0, (p[5]?).getD 0⟩
abbrev pat (g k : Nat) : Value := .pointer (some ⟨g, k, none⟩)
theorem matrix_ctr (c b : Nat) (sv : Value) (b2 b1 : Bool) (bs : Bs) (I : Mem) (hb : Byt I sv bs) :
    Ctr Tryd.prog 56 [ptr c] I (inL c b sv b2 b1) (RdP agg Mtx.rep Mtx.w Mtx.ok c b (st b1 b2 bs)) := by
  refine Ctr.intro Tryd.func56 rfl rfl rfl fun E F => ?_
  refine WC.seq ?_
  refine WC.region ?_
  (refine WL.alloc rfl ?_; intro _)
  refine WL.nApp ?_
  refine WL.nil ?_
  refine WX.thenC ?_
  refine WC.seq ?_
  refine WC.seq ?_
  refine WC.region ?_
  refine WL.val (Val.fldAddr rfl) rfl ?_
  refine WL.val (Val.fldAddr rfl) rfl ?_
  refine WL.val (Val.fldAddr rfl) rfl ?_
  refine WL.val (Val.fldAddr rfl) rfl ?_
  refine WL.val (Val.fldAddr rfl) rfl ?_
  refine WL.val (Val.fldAddr rfl) rfl ?_
  (refine WL.buildSlice (by with_unfolding_all exact rfl) rfl (by with_unfolding_all exact rfl) rfl ?_; intro _)
  refine WL.nApp ?_
  refine WL.val (Val.len rfl) rfl ?_
  refine WL.val (Val.moveI rfl) rfl ?_
  refine WL.nil ?_
  refine WX.thenC ?_
  refine WC.block ?_
  rename_i g h
  refine WC.conv (L' := [F, box c 103 [ptr b, .bool b2], box g 26 (mtx6 []).cs, box h 133 [pat g 0, pat g 1, pat g 2, pat g 3, pat g 4, pat g 5], box b 132 [sv, .bool b1]]) (fun w h => h.sub [0, 0, 1, 1, 0] rfl) ?_
  refine WC.loop (fun m ρ' I' L' => ∃ j : Nat, ∃ p : List Int, m = 6 - j ∧ j ≤ 6 ∧ I' = I ∧ p.length = j ∧ ρ' 0 = ptr c ∧ ρ' 2 = ptr g ∧ ρ' 11 = .slice (some ⟨h, 0, none⟩) 6 6 ∧ ρ' 12 = vi 6 ∧ ρ' 13 = vi j ∧ ∃ sv' d1 bs',
      L' = [F, box c 103 [ptr b, .bool b2], box g 26 (mtx6 p).cs, box h 133 [pat g 0, pat g 1, pat g 2, pat g 3, pat g 4, pat g 5], box b 132 [sv', .bool d1]] ∧ Byt I sv' bs' ∧ (∀ x ∈ p, I64 x) ∧ Reads (fun l : List Int => (l.map eInt).flatten) (fun l => l.length = j ∧ ∀ x ∈ l, I64 x) (st b1 b2 bs) p (st d1 b2 bs'))
    6 ⟨0, [], rfl, by omega, rfl, rfl, rfl, rfl, rfl, rfl, rfl, sv, b1, bs, rfl, hb, (fun _ h => nomatch h), Reads.start⟩ ?_
  rintro m ρ' I0 L' ⟨j, p, rfl, hj, rfl, rfl, h0, h2, h11, h12, h13, sv', d1, bs', rfl, hB, hok, hR⟩
  rw [← upd_self h13, ← upd_self h12, ← upd_self h11, ← upd_self h2, ← upd_self h0]
  clear h13 h12 h11 h2 h0
  by_cases hlt : p.length < 6
  · match p, hj, hok, hR, hlt with
    | [], hj, hok, hR, hlt =>
      refine WC.seq ?_
      refine WC.region ?_
      refine WL.val (Val.lss rfl rfl (decide_eq_true (by omega))) rfl ?_
      refine WL.nil ?_
      refine WX.thenC ?_
      refine WC.seq ?_
      refine WC.condT rfl ?_
      refine WC.skip ?_
      refine WX.thenC ?_
      refine WC.seq ?_
      refine WC.block ?_
      refine WC.seq ?_
      refine WC.region ?_
      refine WL.val (Val.indexAddr rfl rfl (by omega) (by omega)) rfl ?_
      refine WL.val (Val.loadS rfl (Rd.own1 3 rfl rfl)) rfl ?_
      refine WL.val (Val.assignP rfl) rfl ?_
      refine WL.nil ?_
      refine WX.thenC ?_
      refine WC.region ?_
      refine WL.val (Val.moveP rfl) rfl ?_
      refine WL.val (Val.moveP rfl) rfl ?_
      refine WL.val (Val.nilCheckP rfl) rfl ?_
      refine WL.val (Val.fldAddr rfl) rfl ?_
      refine WL.val (Val.loadS rfl (Rd.own1 1 rfl rfl)) rfl ?_
      refine WL.callP [4] rfl rfl (inInt b sv' d1 bs' _ hB) rfl ?_
      rintro _ _ _ - ⟨rfl, x, sv2, e1, bs2, rfl, hx, rfl, hB2, hR2⟩
      refine WL.nApp ?_
      refine WL.val (Val.nilCheckP rfl) rfl ?_
      refine WL.stI 2 rfl rfl rfl rfl ?_
      refine WL.nil ?_
      refine WX.inNormal ?_
      refine WX.thenC ?_
      refine WC.region ?_
      refine WL.val (Val.add rfl rfl (wrap_i64 (by omega) (by omega))) rfl ?_
      refine WL.val (Val.moveI rfl) rfl ?_
      refine WL.nil ?_
      have hok' : ∀ y ∈ [x], I64 y := by
        intro y hy
        simp only [List.mem_cons, List.not_mem_nil, or_false] at hy
        rcases hy with rfl
        · exact hx
      refine WX.thenK (WK.round 5 (by simp) ⟨1, [x], rfl, by omega, rfl, rfl, rfl, rfl, rfl, rfl, rfl, sv2, e1, bs2, rfl, hB2, hok', hR.snoc (hR2.lift b2)⟩)
    | [p0], hj, hok, hR, hlt =>
      refine WC.seq ?_
      refine WC.region ?_
      refine WL.val (Val.lss rfl rfl (decide_eq_true (by omega))) rfl ?_
      refine WL.nil ?_
      refine WX.thenC ?_
      refine WC.seq ?_
      refine WC.condT rfl ?_
      refine WC.skip ?_
      refine WX.thenC ?_
      refine WC.seq ?_
      refine WC.block ?_
      refine WC.seq ?_
      refine WC.region ?_
      refine WL.val (Val.indexAddr rfl rfl (by omega) (by omega)) rfl ?_
      refine WL.val (Val.loadS rfl (Rd.own1 3 rfl rfl)) rfl ?_
      refine WL.val (Val.assignP rfl) rfl ?_
      refine WL.nil ?_
      refine WX.thenC ?_
      refine WC.region ?_
      refine WL.val (Val.moveP rfl) rfl ?_
      refine WL.val (Val.moveP rfl) rfl ?_
      refine WL.val (Val.nilCheckP rfl) rfl ?_
      refine WL.val (Val.fldAddr rfl) rfl ?_
      refine WL.val (Val.loadS rfl (Rd.own1 1 rfl rfl)) rfl ?_
      refine WL.callP [4] rfl rfl (inInt b sv' d1 bs' _ hB) rfl ?_
      rintro _ _ _ - ⟨rfl, x, sv2, e1, bs2, rfl, hx, rfl, hB2, hR2⟩
      refine WL.nApp ?_
      refine WL.val (Val.nilCheckP rfl) rfl ?_
      refine WL.stI 2 rfl rfl rfl rfl ?_
      refine WL.nil ?_
      refine WX.inNormal ?_
      refine WX.thenC ?_
      refine WC.region ?_
      refine WL.val (Val.add rfl rfl (wrap_i64 (by omega) (by omega))) rfl ?_
      refine WL.val (Val.moveI rfl) rfl ?_
      refine WL.nil ?_
      have hok' : ∀ y ∈ [p0, x], I64 y := by
        intro y hy
        simp only [List.mem_cons, List.not_mem_nil, or_false] at hy
        rcases hy with rfl | rfl
        · exact hok _ (by simp)
        · exact hx
      refine WX.thenK (WK.round 4 (by simp) ⟨2, [p0, x], rfl, by omega, rfl, rfl, rfl, rfl, rfl, rfl, rfl, sv2, e1, bs2, rfl, hB2, hok', hR.snoc (hR2.lift b2)⟩)
    | [p0, p1], hj, hok, hR, hlt =>
      refine WC.seq ?_
      refine WC.region ?_
      refine WL.val (Val.lss rfl rfl (decide_eq_true (by omega))) rfl ?_
      refine WL.nil ?_
      refine WX.thenC ?_
      refine WC.seq ?_
      refine WC.condT rfl ?_
      refine WC.skip ?_
      refine WX.thenC ?_
      refine WC.seq ?_
      refine WC.block ?_
      refine WC.seq ?_
      refine WC.region ?_
      refine WL.val (Val.indexAddr rfl rfl (by omega) (by omega)) rfl ?_
      refine WL.val (Val.loadS rfl (Rd.own1 3 rfl rfl)) rfl ?_
      refine WL.val (Val.assignP rfl) rfl ?_
      refine WL.nil ?_
      refine WX.thenC ?_
      refine WC.region ?_
      refine WL.val (Val.moveP rfl) rfl ?_
      refine WL.val (Val.moveP rfl) rfl ?_
      refine WL.val (Val.nilCheckP rfl) rfl ?_
      refine WL.val (Val.fldAddr rfl) rfl ?_
      refine WL.val (Val.loadS rfl (Rd.own1 1 rfl rfl)) rfl ?_
      refine WL.callP [4] rfl rfl (inInt b sv' d1 bs' _ hB) rfl ?_
      rintro _ _ _ - ⟨rfl, x, sv2, e1, bs2, rfl, hx, rfl, hB2, hR2⟩
      refine WL.nApp ?_
      refine WL.val (Val.nilCheckP rfl) rfl ?_
      refine WL.stI 2 rfl rfl rfl rfl ?_
      refine WL.nil ?_
      refine WX.inNormal ?_
      refine WX.thenC ?_
      refine WC.region ?_
      refine WL.val (Val.add rfl rfl (wrap_i64 (by omega) (by omega))) rfl ?_
      refine WL.val (Val.moveI rfl) rfl ?_
      refine WL.nil ?_
      have hok' : ∀ y ∈ [p0, p1, x], I64 y := by
        intro y hy
        simp only [List.mem_cons, List.not_mem_nil, or_false] at hy
        rcases hy with rfl | rfl | rfl
        · exact hok _ (by simp)
        · exact hok _ (by simp)
        · exact hx
      refine WX.thenK (WK.round 3 (by simp) ⟨3, [p0, p1, x], rfl, by omega, rfl, rfl, rfl, rfl, rfl, rfl, rfl, sv2, e1, bs2, rfl, hB2, hok', hR.snoc (hR2.lift b2)⟩)
    | [p0, p1, p2], hj, hok, hR, hlt =>
      refine WC.seq ?_
      refine WC.region ?_
      refine WL.val (Val.lss rfl rfl (decide_eq_true (by omega))) rfl ?_
      refine WL.nil ?_
      refine WX.thenC ?_
      refine WC.seq ?_
      refine WC.condT rfl ?_
      refine WC.skip ?_
      refine WX.thenC ?_
      refine WC.seq ?_
      refine WC.block ?_
      refine WC.seq ?_
      refine WC.region ?_
      refine WL.val (Val.indexAddr rfl rfl (by omega) (by omega)) rfl ?_
      refine WL.val (Val.loadS rfl (Rd.own1 3 rfl rfl)) rfl ?_
      refine WL.val (Val.assignP rfl) rfl ?_
      refine WL.nil ?_
      refine WX.thenC ?_
      refine WC.region ?_
      refine WL.val (Val.moveP rfl) rfl ?_
      refine WL.val (Val.moveP rfl) rfl ?_
      refine WL.val (Val.nilCheckP rfl) rfl ?_
      refine WL.val (Val.fldAddr rfl) rfl ?_
      refine WL.val (Val.loadS rfl (Rd.own1 1 rfl rfl)) rfl ?_
      refine WL.callP [4] rfl rfl (inInt b sv' d1 bs' _ hB) rfl ?_
      rintro _ _ _ - ⟨rfl, x, sv2, e1, bs2, rfl, hx, rfl, hB2, hR2⟩
      refine WL.nApp ?_
      refine WL.val (Val.nilCheckP rfl) rfl ?_
      refine WL.stI 2 rfl rfl rfl rfl ?_
      refine WL.nil ?_
      refine WX.inNormal ?_
      refine WX.thenC ?_
      refine WC.region ?_
      refine WL.val (Val.add rfl rfl (wrap_i64 (by omega) (by omega))) rfl ?_
      refine WL.val (Val.moveI rfl) rfl ?_
      refine WL.nil ?_
      have hok' : ∀ y ∈ [p0, p1, p2, x], I64 y := by
        intro y hy
        simp only [List.mem_cons, List.not_mem_nil, or_false] at hy
        rcases hy with rfl | rfl | rfl | rfl
        · exact hok _ (by simp)
        · exact hok _ (by simp)
        · exact hok _ (by simp)
        · exact hx
      refine WX.thenK (WK.round 2 (by simp) ⟨4, [p0, p1, p2, x], rfl, by omega, rfl, rfl, rfl, rfl, rfl, rfl, rfl, sv2, e1, bs2, rfl, hB2, hok', hR.snoc (hR2.lift b2)⟩)
    | [p0, p1, p2, p3], hj, hok, hR, hlt =>
      refine WC.seq ?_
      refine WC.region ?_
      refine WL.val (Val.lss rfl rfl (decide_eq_true (by omega))) rfl ?_
      refine WL.nil ?_
      refine WX.thenC ?_
      refine WC.seq ?_
      refine WC.condT rfl ?_
      refine WC.skip ?_
      refine WX.thenC ?_
      refine WC.seq ?_
      refine WC.block ?_
      refine WC.seq ?_
      refine WC.region ?_
      refine WL.val (Val.indexAddr rfl rfl (by omega) (by omega)) rfl ?_
      refine WL.val (Val.loadS rfl (Rd.own1 3 rfl rfl)) rfl ?_
      refine WL.val (Val.assignP rfl) rfl ?_
      refine WL.nil ?_
      refine WX.thenC ?_
      refine WC.region ?_
      refine WL.val (Val.moveP rfl) rfl ?_
      refine WL.val (Val.moveP rfl) rfl ?_
      refine WL.val (Val.nilCheckP rfl) rfl ?_
      refine WL.val (Val.fldAddr rfl) rfl ?_
      refine WL.val (Val.loadS rfl (Rd.own1 1 rfl rfl)) rfl ?_
      refine WL.callP [4] rfl rfl (inInt b sv' d1 bs' _ hB) rfl ?_
      rintro _ _ _ - ⟨rfl, x, sv2, e1, bs2, rfl, hx, rfl, hB2, hR2⟩
      refine WL.nApp ?_
      refine WL.val (Val.nilCheckP rfl) rfl ?_
      refine WL.stI 2 rfl rfl rfl rfl ?_
      refine WL.nil ?_
      refine WX.inNormal ?_
      refine WX.thenC ?_
      refine WC.region ?_
      refine WL.val (Val.add rfl rfl (wrap_i64 (by omega) (by omega))) rfl ?_
      refine WL.val (Val.moveI rfl) rfl ?_
      refine WL.nil ?_
      have hok' : ∀ y ∈ [p0, p1, p2, p3, x], I64 y := by
        intro y hy
        simp only [List.mem_cons, List.not_mem_nil, or_false] at hy
        rcases hy with rfl | rfl | rfl | rfl | rfl
        · exact hok _ (by simp)
        · exact hok _ (by simp)
        · exact hok _ (by simp)
        · exact hok _ (by simp)
        · exact hx
      refine WX.thenK (WK.round 1 (by simp) ⟨5, [p0, p1, p2, p3, x], rfl, by omega, rfl, rfl, rfl, rfl, rfl, rfl, rfl, sv2, e1, bs2, rfl, hB2, hok', hR.snoc (hR2.lift b2)⟩)
    | [p0, p1, p2, p3, p4], hj, hok, hR, hlt =>
      refine WC.seq ?_
      refine WC.region ?_
      refine WL.val (Val.lss rfl rfl (decide_eq_true (by omega))) rfl ?_
      refine WL.nil ?_
      refine WX.thenC ?_
      refine WC.seq ?_
      refine WC.condT rfl ?_
      refine WC.skip ?_
      refine WX.thenC ?_
      refine WC.seq ?_
      refine WC.block ?_
      refine WC.seq ?_
      refine WC.region ?_
      refine WL.val (Val.indexAddr rfl rfl (by omega) (by omega)) rfl ?_
      refine WL.val (Val.loadS rfl (Rd.own1 3 rfl rfl)) rfl ?_
      refine WL.val (Val.assignP rfl) rfl ?_
      refine WL.nil ?_
      refine WX.thenC ?_
      refine WC.region ?_
      refine WL.val (Val.moveP rfl) rfl ?_
      refine WL.val (Val.moveP rfl) rfl ?_
      refine WL.val (Val.nilCheckP rfl) rfl ?_
      refine WL.val (Val.fldAddr rfl) rfl ?_
      refine WL.val (Val.loadS rfl (Rd.own1 1 rfl rfl)) rfl ?_
      refine WL.callP [4] rfl rfl (inInt b sv' d1 bs' _ hB) rfl ?_
      rintro _ _ _ - ⟨rfl, x, sv2, e1, bs2, rfl, hx, rfl, hB2, hR2⟩
      refine WL.nApp ?_
      refine WL.val (Val.nilCheckP rfl) rfl ?_
      refine WL.stI 2 rfl rfl rfl rfl ?_
      refine WL.nil ?_
      refine WX.inNormal ?_
      refine WX.thenC ?_
      refine WC.region ?_
      refine WL.val (Val.add rfl rfl (wrap_i64 (by omega) (by omega))) rfl ?_
      refine WL.val (Val.moveI rfl) rfl ?_
      refine WL.nil ?_
      have hok' : ∀ y ∈ [p0, p1, p2, p3, p4, x], I64 y := by
        intro y hy
        simp only [List.mem_cons, List.not_mem_nil, or_false] at hy
        rcases hy with rfl | rfl | rfl | rfl | rfl | rfl
        · exact hok _ (by simp)
        · exact hok _ (by simp)
        · exact hok _ (by simp)
        · exact hok _ (by simp)
        · exact hok _ (by simp)
        · exact hx
      refine WX.thenK (WK.round 0 (by simp) ⟨6, [p0, p1, p2, p3, p4, x], rfl, by omega, rfl, rfl, rfl, rfl, rfl, rfl, rfl, sv2, e1, bs2, rfl, hB2, hok', hR.snoc (hR2.lift b2)⟩)
    | _ :: _ :: _ :: _ :: _ :: _ :: _, hj, hok, hR, hlt => simp at hlt; omega
  · skip
    refine WC.seq ?_
    refine WC.region ?_
    refine WL.val (Val.lss rfl rfl (decide_eq_false (by omega))) rfl ?_
    refine WL.nil ?_
    refine WX.thenC ?_
    refine WC.seq ?_
    refine WC.condF rfl ?_
    refine WC.exit ?_
    refine WX.thenExit ?_
    refine WX.thenExit ?_
    refine WX.inHit ?_
    refine WX.thenC ?_
    refine WC.seq ?_
    refine WC.region ?_
    refine WL.val (Val.ldO 2 rfl rfl rfl) rfl ?_
    refine WL.stA 2 rfl rfl rfl rfl ?_
    refine WL.nil ?_
    refine WX.thenC ?_
    refine WC.ret ?_
    apply WX.doneP (ks := [0, 2])
    case hres => exact RunRes.r1 rfl (ResIs.cellL 2 rfl rfl rfl)
    case hI => first | exact Mem.le.refl _ | assumption
    have hl : p.length = 6 := by omega
    match p, hl, hok, hR with
    | [p0, p1, p2, p3, p4, p5], _, hok, hR =>
      refine ⟨⟨p0, p1, p2, p3, p4, p5⟩, _, sv', b2, d1, bs', rfl, ⟨rfl, hok _ (by simp), hok _ (by simp), hok _ (by simp), hok _ (by simp), hok _ (by simp), hok _ (by simp)⟩, rfl, hB, hR.map (fun m => [m.a, m.b, m.c, m.d, m.e, m.f]) ?_ ?_ ?_⟩
      · rintro m ⟨h0, h1, h2, h3, h4, h5⟩
        refine ⟨by simp [Mtx.w], rfl, fun x hx => ?_⟩
        simp only [List.mem_cons, List.not_mem_nil, or_false] at hx
        rcases hx with rfl | rfl | rfl | rfl | rfl | rfl <;> assumption
      · exact fun _ => ⟨⟨hok _ (by simp), hok _ (by simp), hok _ (by simp), hok _ (by simp), hok _ (by simp), hok _ (by simp)⟩, rfl⟩
      · rintro ⟨⟩ _ h
        cases h
        rfl
theorem path_ctr (c b : Nat) (sv : Value) (b2 b1 : Bool) (bs : Bs) (I : Mem) (hN : NeedAt I) (hb : Byt I sv bs) :
    Ctr Tryd.prog 58 [ptr c] I (inL c b sv b2 b1) (RdL Sg.rep Sg.w Sg.plain 4096 c b (st b1 b2 bs)) := by
  refine Ctr.intro Tryd.func58 rfl rfl rfl fun E F => ?_
  refine WC.seq ?_
  refine WC.region ?_
  refine WL.val (Val.assignS rfl) rfl ?_
  refine WL.nil ?_
  refine WX.thenC ?_
  refine WC.seq ?_
  refine WC.region ?_
  refine WL.val (Val.moveP rfl) rfl ?_
  refine WL.val (Val.moveP rfl) rfl ?_
  refine WL.val Val.makeFuncL rfl ?_
  refine WL.callP [1, 1] rfl rfl (listSg 59 (ptr c) c b Sg.w Sg.plain (fun sv b2 b1 bs I hN h => seg_ctr c b sv b2 b1 bs I hN h) 4096 (by decide) (by decide) sv b2 b1 bs _ hN hb) rfl ?_
  rintro _ I6 _ hI6 ⟨l, sv6, d6, c6, bs6, hl, rfl, hB6, hR6⟩
  obtain ⟨a6, k6, rfl⟩ := hl.sl
  refine WL.nApp ?_
  refine WL.val (Val.assignS rfl) rfl ?_
  refine WL.nil ?_
  refine WX.thenC ?_
  refine WC.ret ?_
  apply WX.doneP (ks := [0, 0])
  case hres => exact RunRes.r1 rfl (ResIs.tmpS rfl)
  case hI => first | exact Mem.le.refl _ | assumption
  exact ⟨l, sv6, d6, c6, bs6, hl, rfl, hB6, hR6⟩
theorem attr_ctr (c b : Nat) (sv : Value) (b2 b1 : Bool) (bs : Bs) (I : Mem) (hN : NeedAt I) (hb : Byt I sv bs) :
    Ctr Tryd.prog 55 [ptr c] I (inL c b sv b2 b1) (RdP agg Atr.rep Atr.w Atr.plain c b (st b1 b2 bs)) := by
  refine Ctr.intro Tryd.func55 rfl rfl rfl fun E F => ?_
  refine WC.seq ?_
  refine WC.region ?_
  (refine WL.alloc rfl ?_; intro _)
  refine WL.nApp ?_
  refine WL.nil ?_
  refine WX.thenC ?_
  refine WC.seq ?_
  refine WC.region ?_
  refine WL.val (Val.moveP rfl) rfl ?_
  refine WL.callP [1, 1] rfl rfl (matrix_ctr c b sv b2 b1 bs _ hb) rfl ?_
  rintro _ I1 _ hI1 ⟨x1, _, sv1, d1, c1, bs1, rfl, ⟨rfl, hx1⟩, rfl, hB1, hR1⟩
  refine WL.nApp ?_
  refine WL.val (Val.fldAddr rfl) rfl ?_
  refine WL.stA 1 rfl rfl rfl rfl ?_
  refine WL.nil ?_
  refine WX.thenC ?_
  refine WC.seq ?_
  refine WC.region ?_
  refine WL.val (Val.moveP rfl) rfl ?_
  refine WL.callP [2, 2] rfl rfl (style_ctr c b sv1 d1 c1 bs1 _ (hN.mono hI1) hB1) rfl ?_
  rintro _ I2 _ hI2 ⟨x2, _, sv2, d2, c2, bs2, rfl, ⟨_, _, _, rfl, ha2⟩, rfl, hB2, hR2⟩
  obtain ⟨a1, k1, a2, k2, a3, k3, rfl, rfl, rfl⟩ := ha2.sl
  refine WL.nApp ?_
  refine WL.val (Val.fldAddr rfl) rfl ?_
  refine WL.stA 1 rfl rfl rfl rfl ?_
  refine WL.nil ?_
  refine WX.thenC ?_
  refine WC.seq ?_
  refine WC.region ?_
  refine WL.val (Val.moveP rfl) rfl ?_
  refine WL.callP [2, 2] rfl rfl (path_ctr c b sv2 d2 c2 bs2 _ ((hN.mono hI1).mono hI2) hB2) rfl ?_
  rintro _ I3 _ hI3 ⟨l, sv3, d3, c3, bs3, hl, rfl, hB3, hR3⟩
  obtain ⟨a4, k4, rfl⟩ := hl.sl
  refine WL.nApp ?_
  refine WL.val (Val.fldAddr rfl) rfl ?_
  refine WL.stS 1 rfl rfl rfl rfl ?_
  refine WL.nil ?_
  refine WX.thenC ?_
  refine WC.seq ?_
  refine WC.region ?_
  refine WL.val (Val.ldO 1 rfl rfl rfl) rfl ?_
  refine WL.stA 1 rfl rfl rfl rfl ?_
  refine WL.nil ?_
  refine WX.thenC ?_
  refine WC.ret ?_
  have hI : I.le I3 := (hI1.trans hI2).trans hI3
  apply WX.doneP (ks := [1, 1])
  case hres => exact RunRes.r1 rfl (ResIs.cellL 1 rfl rfl rfl)
  case hI => first | exact Mem.le.refl _ | assumption
  refine ⟨⟨x1, x2, l⟩, _, sv3, d3, c3, bs3, rfl, ⟨_, _, _, _, rfl, ⟨hx1, ha2.mono hI3, hl⟩⟩, rfl, hB3, ((hR1.two hR2).two hR3).map (fun s => ((s.mtx, s.sty), s.path)) ?_ ?_ ?_⟩
  · rintro s ⟨h1, h2, h3⟩
    exact ⟨rfl, ⟨⟨h1, h2⟩, Int.ofNat_le.2 h3.1, h3.2⟩⟩
  · rintro ⟨⟨h1, h2⟩, h3⟩
    exact ⟨⟨h1, h2, Int.ofNat_le.1 h3.1, h3.2⟩, rfl⟩
  · rintro ⟨⟩ _ h
    cases h
    rfl
end Go.Proofs.YtfdeckdongonnaaDoor
