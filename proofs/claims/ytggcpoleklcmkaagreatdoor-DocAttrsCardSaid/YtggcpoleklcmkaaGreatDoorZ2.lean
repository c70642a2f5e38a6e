/-
  Drawings, the walks: are two things one?
-/
import Derived.Test.YtggcpoleklcmkaaGreatDoorZ1
import Derived.Test.YtggcpoleklcmkaaGreatDoorX2
import Derived.Test.YtggcpoleklcmkaaGreatDoorX5
namespace Go.Dc
open Go.Sl Go.Ls
theorem vi_inj {a b : Int} (h : vi a = vi b) : a = b := by injection h
theorem byt_inj {a b : Fin 256} (h : byt a = byt b) : a = b := by injection h with _ h; exact Fin.ext (by omega)
theorem Pt.inj {p q : Pt} (h : p.cs = q.cs) : p = q := by
  cases p; cases q
  simp only [Pt.cs, List.cons.injEq, Value.int.injEq, true_and, and_true] at h
  obtain ⟨rfl, rfl⟩ := h; rfl
theorem Col.inj {p q : Col} (h : p.cs = q.cs) : p = q := by
  cases p; cases q
  simp only [Col.cs, List.cons.injEq, and_true] at h
  obtain ⟨h1, h2, h3, h4⟩ := h
  rw [byt_inj h1, byt_inj h2, byt_inj h3, byt_inj h4]
theorem Stp.inj {p q : Stp} (h : p.cs = q.cs) : p = q := by
  cases p with | mk a c => cases q with | mk b d =>
  simp only [Stp.cs, List.cons.injEq, and_true] at h
  obtain ⟨h0, h1, h2, h3, h4⟩ := h
  rw [vi_inj h0, Col.inj (p := c) (q := d) (by simp only [Col.cs, h1, h2, h3, h4])]
theorem Sg.inj {p q : Sg} (h : p.cs = q.cs) : p = q := by
  obtain ⟨k, ⟨a, b⟩, ⟨c, d⟩, ⟨e, f⟩⟩ := p
  obtain ⟨k', ⟨a', b'⟩, ⟨c', d'⟩, ⟨e', f'⟩⟩ := q
  simp only [Sg.cs, List.cons.injEq, Value.int.injEq, true_and, and_true] at h
  obtain ⟨rfl, rfl, rfl, rfl, rfl, rfl, rfl⟩ := h; rfl
theorem Mtx.inj {p q : Mtx} (h : p.cs = q.cs) : p = q := by
  cases p; cases q
  simp only [Mtx.cs, List.cons.injEq, Value.int.injEq, true_and, and_true] at h
  obtain ⟨rfl, rfl, rfl, rfl, rfl, rfl⟩ := h; rfl
theorem Pnt.of {p q : Pnt} (h0 : p.kind = q.kind) (h1 : p.col = q.col) (h2 : p.frm = q.frm) (h3 : p.to = q.to) (h4 : p.stops = q.stops) : p = q := by
  cases p; cases q
  simp only at h0 h1 h2 h3 h4
  subst h0 h1 h2 h3 h4; rfl
theorem Sty.of {p q : Sty} (h0 : p.fill = q.fill) (h1 : p.pen = q.pen) (h2 : p.rule = q.rule) (h3 : p.half = q.half) (h4 : p.cap = q.cap) (h5 : p.dash = q.dash) (h6 : p.phase = q.phase) (h7 : p.opac = q.opac) (h8 : p.mode = q.mode) : p = q := by
  cases p; cases q
  simp only at h0 h1 h2 h3 h4 h5 h6 h7 h8
  subst h0 h1 h2 h3 h4 h5 h6 h7 h8; rfl
theorem Atr.of {p q : Atr} (h0 : p.mtx = q.mtx) (h1 : p.sty = q.sty) (h2 : p.path = q.path) : p = q := by
  cases p; cases q
  simp only at h0 h1 h2
  subst h0 h1 h2; rfl
theorem Ent.of {p q : Ent} (h0 : p.id = q.id) (h1 : p.grp = q.grp) (h2 : p.kids = q.kids) (h3 : p.atr = q.atr) : p = q := by
  cases p; cases q
  simp only at h0 h1 h2 h3
  subst h0 h1 h2 h3; rfl
theorem Cm.of {p q : Cm} (h0 : p.kind = q.kind) (h1 : p.id = q.id) (h2 : p.parent = q.parent) (h3 : p.index = q.index) (h4 : p.count = q.count) (h5 : p.i = q.i) (h6 : p.k = q.k) (h7 : p.seg = q.seg) (h8 : p.point = q.point) (h9 : p.atr = q.atr) (h10 : p.ents = q.ents) : p = q := by
  cases p; cases q
  simp only at h0 h1 h2 h3 h4 h5 h6 h7 h8 h9 h10
  subst h0 h1 h2 h3 h4 h5 h6 h7 h8 h9 h10; rfl
end Go.Dc
namespace Go.Proofs.YtggcpoleklcmkaaGreatDoor
open Go.Sl Go.Ls Go.Dc
set_option maxRecDepth 100000
set_option maxHeartbeats 4000000
set_option linter.unusedVariables false
set_option linter.unusedSimpArgs false
attribute [local irreducible] WC WL WX WK WA WAK Val Ctr RunRes ResIs Rd At sl box pt Exit.then Exit.inBlock bodyPost Code.wp wpList
theorem take_more {α : Type} {l m : List α} {k : Nat} (h : l.take k = m.take k) (h1 : k < l.length) (h2 : k < m.length) (he : l[k] = m[k]) : l.take (k + 1) = m.take (k + 1) := by
  rw [List.take_succ_eq_append_getElem h1, List.take_succ_eq_append_getElem h2, h, he]
theorem eqInt (l m : List Int) (v u : Value) (I : Mem) (hv : LsAt Int.rep I l v) (hu : LsAt Int.rep I m u) :
    Ctr Tryz.prog 99 [v, u] I [] (Still I (EqP (l = m))) := by
  have hlb : l.length ≤ 9223372036854775807 := by obtain ⟨_, h, _⟩ := hv; exact h.le
  obtain ⟨a1, c1, rfl⟩ := hv.sl
  obtain ⟨a2, c2, rfl⟩ := hu.sl
  refine Ctr.intro Tryz.func99 rfl rfl rfl fun E F => ?_
  by_cases hne : l.length = m.length
  · skip
    refine WC.seq ?_
    refine WC.region ?_
    refine WL.val (Val.assignB rfl) rfl ?_
    refine WL.nil ?_
    refine WX.thenC ?_
    refine WC.seq ?_
    refine WC.seq ?_
    refine WC.region ?_
    refine WL.val (Val.moveS rfl) rfl ?_
    refine WL.val (Val.len rfl) rfl ?_
    refine WL.val (Val.moveS rfl) rfl ?_
    refine WL.val (Val.len rfl) rfl ?_
    refine WL.val (Val.neq rfl rfl (bne_eq_false_iff_eq.2 (by omega))) rfl ?_
    refine WL.nil ?_
    refine WX.thenC ?_
    refine WC.condF rfl ?_
    refine WC.skip ?_
    refine WX.thenC ?_
    refine WC.seq ?_
    refine WC.seq ?_
    refine WC.region ?_
    refine WL.val (Val.moveS rfl) rfl ?_
    refine WL.val (Val.len rfl) rfl ?_
    refine WL.val (Val.moveI rfl) rfl ?_
    refine WL.nil ?_
    refine WX.thenC ?_
    refine WC.block ?_
    refine WC.loop (fun q ρ' I' L' => ∃ k : Nat, q = l.length - k ∧ k ≤ l.length ∧ I' = I ∧ ρ' 0 = .slice a1 l.length c1 ∧ ρ' 1 = .slice a2 m.length c2 ∧ ρ' 12 = vi l.length ∧ ρ' 13 = vi k ∧ L' = [F] ∧ l.take k = m.take k)
      l.length ⟨0, rfl, by omega, rfl, rfl, rfl, rfl, rfl, rfl, rfl⟩ ?_
    rintro q ρ' I0 L' ⟨k, rfl, hk, rfl, h0, h1, h12, h13, rfl, heq⟩
    rw [← upd_self h13, ← upd_self h12, ← upd_self h1, ← upd_self h0]
    clear h13 h12 h1 h0
    by_cases hkn : k < l.length
    · have hkm : k < m.length := by omega
      obtain ⟨b, off, cap', cs, he, ⟨rfl, hi⟩, hA⟩ := hv.get k hkn
      cases he
      obtain ⟨b', off', cap'', cs', he', ⟨rfl, hi'⟩, hA'⟩ := hu.get k hkm
      cases he'
      have htk := take_more heq hkn hkm
      generalize hx : l[k] = x at *
      generalize hy : m[k] = y at *
      refine WC.seq ?_
      refine WC.region ?_
      refine WL.val (Val.lss rfl rfl (decide_eq_true (by omega))) rfl ?_
      refine WL.nil ?_
      refine WX.thenC ?_
      refine WC.seq ?_
      refine WC.condT rfl ?_
      refine WC.skip ?_
      refine WX.thenC ?_
      refine WC.seq ?_
      refine WC.block ?_
      refine WC.seq ?_
      refine WC.region ?_
      refine WL.val (Val.moveI rfl) rfl ?_
      refine WL.val (Val.assignI rfl) rfl ?_
      refine WL.nil ?_
      refine WX.thenC ?_
      refine WC.seq ?_
      by_cases hxy : x = y
      · subst hxy
        refine WC.drawK 999 I0 [] rfl (by kernel_rfl) rfl rfl ?_
        refine WA.take 0 rfl (by kernel_rfl) rfl (fun w h => (h.sub [] rfl)) (Val.moveS rfl) rfl ?_
        refine WA.take 1 rfl (by kernel_rfl) rfl (fun w h => (h.sub [] rfl)) (Val.moveI rfl) rfl ?_
        refine WA.take 2 rfl (by kernel_rfl) rfl (fun w h => (h.sub [] rfl)) (Val.indexAddr rfl rfl (by omega) (by omega)) rfl ?_
        refine WA.take 3 rfl (by kernel_rfl) rfl (fun w h => (h.sub [] rfl)) (Val.loadS rfl (Rd.imm (by assumption))) rfl ?_
        refine WA.take 4 rfl (by kernel_rfl) rfl (fun w h => (h.sub [] rfl)) (Val.moveS rfl) rfl ?_
        refine WA.take 5 rfl (by kernel_rfl) rfl (fun w h => (h.sub [] rfl)) (Val.moveI rfl) rfl ?_
        refine WA.take 6 rfl (by kernel_rfl) rfl (fun w h => (h.sub [] rfl)) (Val.indexAddr rfl rfl (by omega) (by omega)) rfl ?_
        refine WA.take 7 rfl (by kernel_rfl) rfl (fun w h => (h.sub [] rfl)) (Val.loadS rfl (Rd.imm (by assumption))) rfl ?_
        refine WA.take 8 rfl (by kernel_rfl) rfl (fun w h => (h.sub [] rfl)) (Val.neq rfl rfl (bne_eq_false_iff_eq.2 (by omega))) rfl ?_
        refine WA.done (by kernel_rfl) ?_
        refine WX.thenC ?_
        refine WC.condF rfl ?_
        refine WC.skip ?_
        refine WX.inNormal ?_
        refine WX.thenC ?_
        refine WC.region ?_
        refine WL.val (Val.add rfl rfl (wrap_i64 (by omega) (by omega))) rfl ?_
        refine WL.val (Val.moveI rfl) rfl ?_
        refine WL.nil ?_
        exact WX.thenK (WK.round (l.length - (k + 1)) (by omega) ⟨k + 1, rfl, by omega, rfl, rfl, rfl, rfl, rfl, rfl, htk rfl⟩)
      · skip
        refine WC.drawK 999 I0 [] rfl (by kernel_rfl) rfl rfl ?_
        refine WA.take 0 rfl (by kernel_rfl) rfl (fun w h => (h.sub [] rfl)) (Val.moveS rfl) rfl ?_
        refine WA.take 1 rfl (by kernel_rfl) rfl (fun w h => (h.sub [] rfl)) (Val.moveI rfl) rfl ?_
        refine WA.take 2 rfl (by kernel_rfl) rfl (fun w h => (h.sub [] rfl)) (Val.indexAddr rfl rfl (by omega) (by omega)) rfl ?_
        refine WA.take 3 rfl (by kernel_rfl) rfl (fun w h => (h.sub [] rfl)) (Val.loadS rfl (Rd.imm (by assumption))) rfl ?_
        refine WA.take 4 rfl (by kernel_rfl) rfl (fun w h => (h.sub [] rfl)) (Val.moveS rfl) rfl ?_
        refine WA.take 5 rfl (by kernel_rfl) rfl (fun w h => (h.sub [] rfl)) (Val.moveI rfl) rfl ?_
        refine WA.take 6 rfl (by kernel_rfl) rfl (fun w h => (h.sub [] rfl)) (Val.indexAddr rfl rfl (by omega) (by omega)) rfl ?_
        refine WA.take 7 rfl (by kernel_rfl) rfl (fun w h => (h.sub [] rfl)) (Val.loadS rfl (Rd.imm (by assumption))) rfl ?_
        refine WA.take 8 rfl (by kernel_rfl) rfl (fun w h => (h.sub [] rfl)) (Val.neq rfl rfl (bne_iff_ne.2 (by omega))) rfl ?_
        refine WA.done (by kernel_rfl) ?_
        refine WX.thenC ?_
        refine WC.condT rfl ?_
        refine WC.seq ?_
        refine WC.region ?_
        refine WL.val (Val.assignB rfl) rfl ?_
        refine WL.nil ?_
        refine WX.thenC ?_
        refine WC.ret ?_
        refine WX.inRet ?_
        refine WX.thenRet ?_
        refine WX.thenRet ?_
        refine WX.inRet ?_
        refine WX.thenRet ?_
        apply WX.doneP (ks := [])
        case hres => exact RunRes.r1 rfl (ResIs.tmpB rfl)
        case hI => first | exact Mem.le.refl _ | assumption
        refine ⟨rfl, rfl, EqP.f fun e => ?_⟩
        subst e
        exact hxy (hx.symm.trans hy)
    · skip
      refine WC.seq ?_
      refine WC.region ?_
      refine WL.val (Val.lss rfl rfl (decide_eq_false (by omega))) rfl ?_
      refine WL.nil ?_
      refine WX.thenC ?_
      refine WC.seq ?_
      refine WC.condF rfl ?_
      refine WC.exit ?_
      refine WX.thenExit ?_
      refine WX.thenExit ?_
      refine WX.inHit ?_
      refine WX.thenC ?_
      refine WC.seq ?_
      refine WC.region ?_
      refine WL.val (Val.assignB rfl) rfl ?_
      refine WL.nil ?_
      refine WX.thenC ?_
      refine WC.ret ?_
      apply WX.doneP (ks := [])
      case hres => exact RunRes.r1 rfl (ResIs.tmpB rfl)
      case hI => first | exact Mem.le.refl _ | assumption
      refine ⟨rfl, rfl, EqP.t ?_⟩
      have : k = l.length := by omega
      rw [this, List.take_length, hne, List.take_length] at heq
      exact heq
  · skip
    refine WC.seq ?_
    refine WC.region ?_
    refine WL.val (Val.assignB rfl) rfl ?_
    refine WL.nil ?_
    refine WX.thenC ?_
    refine WC.seq ?_
    refine WC.seq ?_
    refine WC.region ?_
    refine WL.val (Val.moveS rfl) rfl ?_
    refine WL.val (Val.len rfl) rfl ?_
    refine WL.val (Val.moveS rfl) rfl ?_
    refine WL.val (Val.len rfl) rfl ?_
    refine WL.val (Val.neq rfl rfl (bne_iff_ne.2 (by omega))) rfl ?_
    refine WL.nil ?_
    refine WX.thenC ?_
    refine WC.condT rfl ?_
    refine WC.seq ?_
    refine WC.region ?_
    refine WL.val (Val.assignB rfl) rfl ?_
    refine WL.nil ?_
    refine WX.thenC ?_
    refine WC.ret ?_
    refine WX.thenRet ?_
    apply WX.doneP (ks := [])
    case hres => exact RunRes.r1 rfl (ResIs.tmpB rfl)
    case hI => first | exact Mem.le.refl _ | assumption
    exact ⟨rfl, rfl, EqP.f fun h => hne (by rw [h])⟩
theorem eqStp (l m : List Stp) (v u : Value) (I : Mem) (hv : LsAt Stp.rep I l v) (hu : LsAt Stp.rep I m u) :
    Ctr Tryz.prog 126 [v, u] I [] (Still I (EqP (l = m))) := by
  have hlb : l.length ≤ 9223372036854775807 := by obtain ⟨_, h, _⟩ := hv; exact h.le
  obtain ⟨a1, c1, rfl⟩ := hv.sl
  obtain ⟨a2, c2, rfl⟩ := hu.sl
  refine Ctr.intro Tryz.func126 rfl rfl rfl fun E F => ?_
  by_cases hne : l.length = m.length
  · skip
    refine WC.seq ?_
    refine WC.region ?_
    refine WL.val (Val.assignB rfl) rfl ?_
    refine WL.nil ?_
    refine WX.thenC ?_
    refine WC.seq ?_
    refine WC.seq ?_
    refine WC.region ?_
    refine WL.val (Val.moveS rfl) rfl ?_
    refine WL.val (Val.len rfl) rfl ?_
    refine WL.val (Val.moveS rfl) rfl ?_
    refine WL.val (Val.len rfl) rfl ?_
    refine WL.val (Val.neq rfl rfl (bne_eq_false_iff_eq.2 (by omega))) rfl ?_
    refine WL.nil ?_
    refine WX.thenC ?_
    refine WC.condF rfl ?_
    refine WC.skip ?_
    refine WX.thenC ?_
    refine WC.seq ?_
    refine WC.seq ?_
    refine WC.region ?_
    refine WL.val (Val.moveS rfl) rfl ?_
    refine WL.val (Val.len rfl) rfl ?_
    refine WL.val (Val.moveI rfl) rfl ?_
    refine WL.nil ?_
    refine WX.thenC ?_
    refine WC.block ?_
    refine WC.loop (fun q ρ' I' L' => ∃ k : Nat, q = l.length - k ∧ k ≤ l.length ∧ I' = I ∧ ρ' 0 = .slice a1 l.length c1 ∧ ρ' 1 = .slice a2 m.length c2 ∧ ρ' 12 = vi l.length ∧ ρ' 13 = vi k ∧ L' = [F] ∧ l.take k = m.take k)
      l.length ⟨0, rfl, by omega, rfl, rfl, rfl, rfl, rfl, rfl, rfl⟩ ?_
    rintro q ρ' I0 L' ⟨k, rfl, hk, rfl, h0, h1, h12, h13, rfl, heq⟩
    rw [← upd_self h13, ← upd_self h12, ← upd_self h1, ← upd_self h0]
    clear h13 h12 h1 h0
    by_cases hkn : k < l.length
    · have hkm : k < m.length := by omega
      obtain ⟨b, off, cap', cs, he, ⟨rfl, hi⟩, hA⟩ := hv.get k hkn
      cases he
      obtain ⟨b', off', cap'', cs', he', ⟨rfl, hi'⟩, hA'⟩ := hu.get k hkm
      cases he'
      have htk := take_more heq hkn hkm
      generalize hx : l[k] = x at *
      generalize hy : m[k] = y at *
      refine WC.seq ?_
      refine WC.region ?_
      refine WL.val (Val.lss rfl rfl (decide_eq_true (by omega))) rfl ?_
      refine WL.nil ?_
      refine WX.thenC ?_
      refine WC.seq ?_
      refine WC.condT rfl ?_
      refine WC.skip ?_
      refine WX.thenC ?_
      refine WC.seq ?_
      refine WC.block ?_
      refine WC.seq ?_
      refine WC.region ?_
      refine WL.val (Val.moveI rfl) rfl ?_
      refine WL.val (Val.assignI rfl) rfl ?_
      refine WL.nil ?_
      refine WX.thenC ?_
      refine WC.seq ?_
      by_cases hxy : x = y
      · subst hxy
        refine WC.drawK 999 I0 [] rfl (by kernel_rfl) rfl rfl ?_
        refine WA.take 0 rfl (by kernel_rfl) rfl (fun w h => (h.sub [] rfl)) (Val.moveS rfl) rfl ?_
        refine WA.take 1 rfl (by kernel_rfl) rfl (fun w h => (h.sub [] rfl)) (Val.moveI rfl) rfl ?_
        refine WA.take 2 rfl (by kernel_rfl) rfl (fun w h => (h.sub [] rfl)) (Val.indexAddr rfl rfl (by omega) (by omega)) rfl ?_
        refine WA.take 3 rfl (by kernel_rfl) rfl (fun w h => (h.sub [] rfl)) (Val.loadI rfl (by assumption) rfl) rfl ?_
        refine WA.take 4 rfl (by kernel_rfl) rfl (fun w h => (h.sub [] rfl)) (Val.moveS rfl) rfl ?_
        refine WA.take 5 rfl (by kernel_rfl) rfl (fun w h => (h.sub [] rfl)) (Val.moveI rfl) rfl ?_
        refine WA.take 6 rfl (by kernel_rfl) rfl (fun w h => (h.sub [] rfl)) (Val.indexAddr rfl rfl (by omega) (by omega)) rfl ?_
        refine WA.take 7 rfl (by kernel_rfl) rfl (fun w h => (h.sub [] rfl)) (Val.loadI rfl (by assumption) rfl) rfl ?_
        refine WA.take 8 rfl (by kernel_rfl) rfl (fun w h => (h.sub [] rfl)) (Val.neqSame rfl rfl rfl) rfl ?_
        refine WA.done (by kernel_rfl) ?_
        refine WX.thenC ?_
        refine WC.condF rfl ?_
        refine WC.skip ?_
        refine WX.inNormal ?_
        refine WX.thenC ?_
        refine WC.region ?_
        refine WL.val (Val.add rfl rfl (wrap_i64 (by omega) (by omega))) rfl ?_
        refine WL.val (Val.moveI rfl) rfl ?_
        refine WL.nil ?_
        exact WX.thenK (WK.round (l.length - (k + 1)) (by omega) ⟨k + 1, rfl, by omega, rfl, rfl, rfl, rfl, rfl, rfl, htk rfl⟩)
      · have hcs : x.cs ≠ y.cs := fun e => hxy (Stp.inj e)
        refine WC.drawK 999 I0 [] rfl (by kernel_rfl) rfl rfl ?_
        refine WA.take 0 rfl (by kernel_rfl) rfl (fun w h => (h.sub [] rfl)) (Val.moveS rfl) rfl ?_
        refine WA.take 1 rfl (by kernel_rfl) rfl (fun w h => (h.sub [] rfl)) (Val.moveI rfl) rfl ?_
        refine WA.take 2 rfl (by kernel_rfl) rfl (fun w h => (h.sub [] rfl)) (Val.indexAddr rfl rfl (by omega) (by omega)) rfl ?_
        refine WA.take 3 rfl (by kernel_rfl) rfl (fun w h => (h.sub [] rfl)) (Val.loadI rfl (by assumption) rfl) rfl ?_
        refine WA.take 4 rfl (by kernel_rfl) rfl (fun w h => (h.sub [] rfl)) (Val.moveS rfl) rfl ?_
        refine WA.take 5 rfl (by kernel_rfl) rfl (fun w h => (h.sub [] rfl)) (Val.moveI rfl) rfl ?_
        refine WA.take 6 rfl (by kernel_rfl) rfl (fun w h => (h.sub [] rfl)) (Val.indexAddr rfl rfl (by omega) (by omega)) rfl ?_
        refine WA.take 7 rfl (by kernel_rfl) rfl (fun w h => (h.sub [] rfl)) (Val.loadI rfl (by assumption) rfl) rfl ?_
        refine WA.take 8 rfl (by kernel_rfl) rfl (fun w h => (h.sub [] rfl)) (Val.neqD rfl rfl rfl rfl (by assumption)) rfl ?_
        refine WA.done (by kernel_rfl) ?_
        refine WX.thenC ?_
        refine WC.condT rfl ?_
        refine WC.seq ?_
        refine WC.region ?_
        refine WL.val (Val.assignB rfl) rfl ?_
        refine WL.nil ?_
        refine WX.thenC ?_
        refine WC.ret ?_
        refine WX.inRet ?_
        refine WX.thenRet ?_
        refine WX.thenRet ?_
        refine WX.inRet ?_
        refine WX.thenRet ?_
        apply WX.doneP (ks := [])
        case hres => exact RunRes.r1 rfl (ResIs.tmpB rfl)
        case hI => first | exact Mem.le.refl _ | assumption
        refine ⟨rfl, rfl, EqP.f fun e => ?_⟩
        subst e
        exact hxy (hx.symm.trans hy)
    · skip
      refine WC.seq ?_
      refine WC.region ?_
      refine WL.val (Val.lss rfl rfl (decide_eq_false (by omega))) rfl ?_
      refine WL.nil ?_
      refine WX.thenC ?_
      refine WC.seq ?_
      refine WC.condF rfl ?_
      refine WC.exit ?_
      refine WX.thenExit ?_
      refine WX.thenExit ?_
      refine WX.inHit ?_
      refine WX.thenC ?_
      refine WC.seq ?_
      refine WC.region ?_
      refine WL.val (Val.assignB rfl) rfl ?_
      refine WL.nil ?_
      refine WX.thenC ?_
      refine WC.ret ?_
      apply WX.doneP (ks := [])
      case hres => exact RunRes.r1 rfl (ResIs.tmpB rfl)
      case hI => first | exact Mem.le.refl _ | assumption
      refine ⟨rfl, rfl, EqP.t ?_⟩
      have : k = l.length := by omega
      rw [this, List.take_length, hne, List.take_length] at heq
      exact heq
  · skip
    refine WC.seq ?_
    refine WC.region ?_
    refine WL.val (Val.assignB rfl) rfl ?_
    refine WL.nil ?_
    refine WX.thenC ?_
    refine WC.seq ?_
    refine WC.seq ?_
    refine WC.region ?_
    refine WL.val (Val.moveS rfl) rfl ?_
    refine WL.val (Val.len rfl) rfl ?_
    refine WL.val (Val.moveS rfl) rfl ?_
    refine WL.val (Val.len rfl) rfl ?_
    refine WL.val (Val.neq rfl rfl (bne_iff_ne.2 (by omega))) rfl ?_
    refine WL.nil ?_
    refine WX.thenC ?_
    refine WC.condT rfl ?_
    refine WC.seq ?_
    refine WC.region ?_
    refine WL.val (Val.assignB rfl) rfl ?_
    refine WL.nil ?_
    refine WX.thenC ?_
    refine WC.ret ?_
    refine WX.thenRet ?_
    apply WX.doneP (ks := [])
    case hres => exact RunRes.r1 rfl (ResIs.tmpB rfl)
    case hI => first | exact Mem.le.refl _ | assumption
    exact ⟨rfl, rfl, EqP.f fun h => hne (by rw [h])⟩
theorem eqSg (l m : List Sg) (v u : Value) (I : Mem) (hv : LsAt Sg.rep I l v) (hu : LsAt Sg.rep I m u) :
    Ctr Tryz.prog 100 [v, u] I [] (Still I (EqP (l = m))) := by
  have hlb : l.length ≤ 9223372036854775807 := by obtain ⟨_, h, _⟩ := hv; exact h.le
  obtain ⟨a1, c1, rfl⟩ := hv.sl
  obtain ⟨a2, c2, rfl⟩ := hu.sl
  refine Ctr.intro Tryz.func100 rfl rfl rfl fun E F => ?_
  by_cases hne : l.length = m.length
  · skip
    refine WC.seq ?_
    refine WC.region ?_
    refine WL.val (Val.assignB rfl) rfl ?_
    refine WL.nil ?_
    refine WX.thenC ?_
    refine WC.seq ?_
    refine WC.seq ?_
    refine WC.region ?_
    refine WL.val (Val.moveS rfl) rfl ?_
    refine WL.val (Val.len rfl) rfl ?_
    refine WL.val (Val.moveS rfl) rfl ?_
    refine WL.val (Val.len rfl) rfl ?_
    refine WL.val (Val.neq rfl rfl (bne_eq_false_iff_eq.2 (by omega))) rfl ?_
    refine WL.nil ?_
    refine WX.thenC ?_
    refine WC.condF rfl ?_
    refine WC.skip ?_
    refine WX.thenC ?_
    refine WC.seq ?_
    refine WC.seq ?_
    refine WC.region ?_
    refine WL.val (Val.moveS rfl) rfl ?_
    refine WL.val (Val.len rfl) rfl ?_
    refine WL.val (Val.moveI rfl) rfl ?_
    refine WL.nil ?_
    refine WX.thenC ?_
    refine WC.block ?_
    refine WC.loop (fun q ρ' I' L' => ∃ k : Nat, q = l.length - k ∧ k ≤ l.length ∧ I' = I ∧ ρ' 0 = .slice a1 l.length c1 ∧ ρ' 1 = .slice a2 m.length c2 ∧ ρ' 12 = vi l.length ∧ ρ' 13 = vi k ∧ L' = [F] ∧ l.take k = m.take k)
      l.length ⟨0, rfl, by omega, rfl, rfl, rfl, rfl, rfl, rfl, rfl⟩ ?_
    rintro q ρ' I0 L' ⟨k, rfl, hk, rfl, h0, h1, h12, h13, rfl, heq⟩
    rw [← upd_self h13, ← upd_self h12, ← upd_self h1, ← upd_self h0]
    clear h13 h12 h1 h0
    by_cases hkn : k < l.length
    · have hkm : k < m.length := by omega
      obtain ⟨b, off, cap', cs, he, ⟨rfl, hi⟩, hA⟩ := hv.get k hkn
      cases he
      obtain ⟨b', off', cap'', cs', he', ⟨rfl, hi'⟩, hA'⟩ := hu.get k hkm
      cases he'
      have htk := take_more heq hkn hkm
      generalize hx : l[k] = x at *
      generalize hy : m[k] = y at *
      refine WC.seq ?_
      refine WC.region ?_
      refine WL.val (Val.lss rfl rfl (decide_eq_true (by omega))) rfl ?_
      refine WL.nil ?_
      refine WX.thenC ?_
      refine WC.seq ?_
      refine WC.condT rfl ?_
      refine WC.skip ?_
      refine WX.thenC ?_
      refine WC.seq ?_
      refine WC.block ?_
      refine WC.seq ?_
      refine WC.region ?_
      refine WL.val (Val.moveI rfl) rfl ?_
      refine WL.val (Val.assignI rfl) rfl ?_
      refine WL.nil ?_
      refine WX.thenC ?_
      refine WC.seq ?_
      by_cases hxy : x = y
      · subst hxy
        refine WC.drawK 999 I0 [] rfl (by kernel_rfl) rfl rfl ?_
        refine WA.take 0 rfl (by kernel_rfl) rfl (fun w h => (h.sub [] rfl)) (Val.moveS rfl) rfl ?_
        refine WA.take 1 rfl (by kernel_rfl) rfl (fun w h => (h.sub [] rfl)) (Val.moveI rfl) rfl ?_
        refine WA.take 2 rfl (by kernel_rfl) rfl (fun w h => (h.sub [] rfl)) (Val.indexAddr rfl rfl (by omega) (by omega)) rfl ?_
        refine WA.take 3 rfl (by kernel_rfl) rfl (fun w h => (h.sub [] rfl)) (Val.loadI rfl (by assumption) rfl) rfl ?_
        refine WA.take 4 rfl (by kernel_rfl) rfl (fun w h => (h.sub [] rfl)) (Val.moveS rfl) rfl ?_
        refine WA.take 5 rfl (by kernel_rfl) rfl (fun w h => (h.sub [] rfl)) (Val.moveI rfl) rfl ?_
        refine WA.take 6 rfl (by kernel_rfl) rfl (fun w h => (h.sub [] rfl)) (Val.indexAddr rfl rfl (by omega) (by omega)) rfl ?_
        refine WA.take 7 rfl (by kernel_rfl) rfl (fun w h => (h.sub [] rfl)) (Val.loadI rfl (by assumption) rfl) rfl ?_
        refine WA.take 8 rfl (by kernel_rfl) rfl (fun w h => (h.sub [] rfl)) (Val.neqSame rfl rfl rfl) rfl ?_
        refine WA.done (by kernel_rfl) ?_
        refine WX.thenC ?_
        refine WC.condF rfl ?_
        refine WC.skip ?_
        refine WX.inNormal ?_
        refine WX.thenC ?_
        refine WC.region ?_
        refine WL.val (Val.add rfl rfl (wrap_i64 (by omega) (by omega))) rfl ?_
        refine WL.val (Val.moveI rfl) rfl ?_
        refine WL.nil ?_
        exact WX.thenK (WK.round (l.length - (k + 1)) (by omega) ⟨k + 1, rfl, by omega, rfl, rfl, rfl, rfl, rfl, rfl, htk rfl⟩)
      · have hcs : x.cs ≠ y.cs := fun e => hxy (Sg.inj e)
        refine WC.drawK 999 I0 [] rfl (by kernel_rfl) rfl rfl ?_
        refine WA.take 0 rfl (by kernel_rfl) rfl (fun w h => (h.sub [] rfl)) (Val.moveS rfl) rfl ?_
        refine WA.take 1 rfl (by kernel_rfl) rfl (fun w h => (h.sub [] rfl)) (Val.moveI rfl) rfl ?_
        refine WA.take 2 rfl (by kernel_rfl) rfl (fun w h => (h.sub [] rfl)) (Val.indexAddr rfl rfl (by omega) (by omega)) rfl ?_
        refine WA.take 3 rfl (by kernel_rfl) rfl (fun w h => (h.sub [] rfl)) (Val.loadI rfl (by assumption) rfl) rfl ?_
        refine WA.take 4 rfl (by kernel_rfl) rfl (fun w h => (h.sub [] rfl)) (Val.moveS rfl) rfl ?_
        refine WA.take 5 rfl (by kernel_rfl) rfl (fun w h => (h.sub [] rfl)) (Val.moveI rfl) rfl ?_
        refine WA.take 6 rfl (by kernel_rfl) rfl (fun w h => (h.sub [] rfl)) (Val.indexAddr rfl rfl (by omega) (by omega)) rfl ?_
        refine WA.take 7 rfl (by kernel_rfl) rfl (fun w h => (h.sub [] rfl)) (Val.loadI rfl (by assumption) rfl) rfl ?_
        refine WA.take 8 rfl (by kernel_rfl) rfl (fun w h => (h.sub [] rfl)) (Val.neqD rfl rfl rfl rfl (by assumption)) rfl ?_
        refine WA.done (by kernel_rfl) ?_
        refine WX.thenC ?_
        refine WC.condT rfl ?_
        refine WC.seq ?_
        refine WC.region ?_
        refine WL.val (Val.assignB rfl) rfl ?_
        refine WL.nil ?_
        refine WX.thenC ?_
        refine WC.ret ?_
        refine WX.inRet ?_
        refine WX.thenRet ?_
        refine WX.thenRet ?_
        refine WX.inRet ?_
        refine WX.thenRet ?_
        apply WX.doneP (ks := [])
        case hres => exact RunRes.r1 rfl (ResIs.tmpB rfl)
        case hI => first | exact Mem.le.refl _ | assumption
        refine ⟨rfl, rfl, EqP.f fun e => ?_⟩
        subst e
        exact hxy (hx.symm.trans hy)
    · skip
      refine WC.seq ?_
      refine WC.region ?_
      refine WL.val (Val.lss rfl rfl (decide_eq_false (by omega))) rfl ?_
      refine WL.nil ?_
      refine WX.thenC ?_
      refine WC.seq ?_
      refine WC.condF rfl ?_
      refine WC.exit ?_
      refine WX.thenExit ?_
      refine WX.thenExit ?_
      refine WX.inHit ?_
      refine WX.thenC ?_
      refine WC.seq ?_
      refine WC.region ?_
      refine WL.val (Val.assignB rfl) rfl ?_
      refine WL.nil ?_
      refine WX.thenC ?_
      refine WC.ret ?_
      apply WX.doneP (ks := [])
      case hres => exact RunRes.r1 rfl (ResIs.tmpB rfl)
      case hI => first | exact Mem.le.refl _ | assumption
      refine ⟨rfl, rfl, EqP.t ?_⟩
      have : k = l.length := by omega
      rw [this, List.take_length, hne, List.take_length] at heq
      exact heq
  · skip
    refine WC.seq ?_
    refine WC.region ?_
    refine WL.val (Val.assignB rfl) rfl ?_
    refine WL.nil ?_
    refine WX.thenC ?_
    refine WC.seq ?_
    refine WC.seq ?_
    refine WC.region ?_
    refine WL.val (Val.moveS rfl) rfl ?_
    refine WL.val (Val.len rfl) rfl ?_
    refine WL.val (Val.moveS rfl) rfl ?_
    refine WL.val (Val.len rfl) rfl ?_
    refine WL.val (Val.neq rfl rfl (bne_iff_ne.2 (by omega))) rfl ?_
    refine WL.nil ?_
    refine WX.thenC ?_
    refine WC.condT rfl ?_
    refine WC.seq ?_
    refine WC.region ?_
    refine WL.val (Val.assignB rfl) rfl ?_
    refine WL.nil ?_
    refine WX.thenC ?_
    refine WC.ret ?_
    refine WX.thenRet ?_
    apply WX.doneP (ks := [])
    case hres => exact RunRes.r1 rfl (ResIs.tmpB rfl)
    case hI => first | exact Mem.le.refl _ | assumption
    exact ⟨rfl, rfl, EqP.f fun h => hne (by rw [h])⟩
theorem eqPnt (p q : Pnt) (t u : Value) (I : Mem) (hp : p.at_ I t) (hq : q.at_ I u) :
    Ctr Tryz.prog 98 [.agg (p.cs t).toArray, .agg (q.cs u).toArray] I [] (Still I (EqP (p = q))) := by
  have ht := hp.stops
  have hu := hq.stops
  obtain ⟨a1, c1, rfl⟩ := hp.sl
  obtain ⟨a2, c2, rfl⟩ := hq.sl
  refine Ctr.intro Tryz.func98 rfl rfl rfl fun E F => ?_
  refine WC.seq ?_
  refine WC.region ?_
  (refine WL.boxA rfl rfl ?_; intro _)
  refine WL.nApp ?_
  (refine WL.boxA rfl rfl ?_; intro _)
  refine WL.nApp ?_
  refine WL.val (Val.assignB rfl) rfl ?_
  refine WL.nil ?_
  refine WX.thenC ?_
  refine WC.seq ?_
  refine WC.region ?_
  refine WL.val (Val.fldAddr rfl) rfl ?_
  refine WL.val (Val.loadS rfl (Rd.own1 1 rfl rfl)) rfl ?_
  refine WL.val (Val.fldAddr rfl) rfl ?_
  refine WL.val (Val.loadS rfl (Rd.own1 2 rfl rfl)) rfl ?_
  refine WL.eqI rfl rfl rfl (fun h => ?_) (fun h => ?_)
  refine WL.val (Val.moveB rfl) rfl ?_
  refine WL.gT rfl rfl ?_
  refine WL.val (Val.fldAddr rfl) rfl ?_
  refine WL.gT rfl rfl ?_
  refine WL.val (Val.ldO 1 rfl rfl rfl) rfl ?_
  refine WL.gT rfl rfl ?_
  refine WL.val (Val.fldAddr rfl) rfl ?_
  refine WL.gT rfl rfl ?_
  refine WL.val (Val.ldO 2 rfl rfl rfl) rfl ?_
  refine WL.gT rfl rfl ?_
  refine WL.eqS rfl rfl rfl rfl rfl (fun h => ?_) (fun h => ?_)
  refine WL.val (Val.pick rfl) rfl ?_
  refine WL.val (Val.moveB rfl) rfl ?_
  refine WL.gT rfl rfl ?_
  refine WL.val (Val.fldAddr rfl) rfl ?_
  refine WL.gT rfl rfl ?_
  refine WL.val (Val.ldO 1 rfl rfl rfl) rfl ?_
  refine WL.gT rfl rfl ?_
  refine WL.val (Val.fldAddr rfl) rfl ?_
  refine WL.gT rfl rfl ?_
  refine WL.val (Val.ldO 2 rfl rfl rfl) rfl ?_
  refine WL.gT rfl rfl ?_
  refine WL.eqS rfl rfl rfl rfl rfl (fun h => ?_) (fun h => ?_)
  refine WL.val (Val.pick rfl) rfl ?_
  refine WL.val (Val.moveB rfl) rfl ?_
  refine WL.gT rfl rfl ?_
  refine WL.val (Val.fldAddr rfl) rfl ?_
  refine WL.gT rfl rfl ?_
  refine WL.val (Val.ldO 1 rfl rfl rfl) rfl ?_
  refine WL.gT rfl rfl ?_
  refine WL.val (Val.fldAddr rfl) rfl ?_
  refine WL.gT rfl rfl ?_
  refine WL.val (Val.ldO 2 rfl rfl rfl) rfl ?_
  refine WL.gT rfl rfl ?_
  refine WL.eqS rfl rfl rfl rfl rfl (fun h => ?_) (fun h => ?_)
  refine WL.val (Val.pick rfl) rfl ?_
  refine WL.val (Val.moveB rfl) rfl ?_
  refine WL.gT rfl rfl ?_
  refine WL.val (Val.fldAddr rfl) rfl ?_
  refine WL.gT rfl rfl ?_
  refine WL.val (Val.loadS rfl (Rd.own1 1 rfl rfl)) rfl ?_
  refine WL.gT rfl rfl ?_
  refine WL.val (Val.fldAddr rfl) rfl ?_
  refine WL.gT rfl rfl ?_
  refine WL.val (Val.loadS rfl (Rd.own1 2 rfl rfl)) rfl ?_
  refine WL.gT rfl rfl ?_
  refine WL.callE rfl rfl (eqStp _ _ _ _ _ ht hu) rfl (fun h => ?_) (fun h => ?_)
  refine WL.val (Val.pick rfl) rfl ?_
  refine WL.val (Val.assignB rfl) rfl ?_
  refine WL.nil ?_
  refine WX.thenC ?_
  refine WC.ret ?_
  apply WX.doneP (ks := [])
  case hres => exact RunRes.r1 rfl (ResIs.tmpB rfl)
  case hI => first | exact Mem.le.refl _ | assumption
  rename_i h0 h1 h2 h3
  exact ⟨rfl, rfl, EqP.t (Pnt.of h0 (Col.inj h1) (Pt.inj h2) (Pt.inj h3) h)⟩
  · skip
    refine WL.val (Val.pick rfl) rfl ?_
    refine WL.val (Val.assignB rfl) rfl ?_
    refine WL.nil ?_
    refine WX.thenC ?_
    refine WC.ret ?_
    apply WX.doneP (ks := [])
    case hres => exact RunRes.r1 rfl (ResIs.tmpB rfl)
    case hI => first | exact Mem.le.refl _ | assumption
    exact ⟨rfl, rfl, EqP.f fun e => h (by subst e; rfl)⟩
  · skip
    refine WL.val (Val.pick rfl) rfl ?_
    refine WL.val (Val.moveB rfl) rfl ?_
    refine WL.gF rfl rfl rfl rfl ?_
    refine WL.gF rfl rfl rfl rfl ?_
    refine WL.gF rfl rfl rfl rfl ?_
    refine WL.gF rfl rfl rfl rfl ?_
    refine WL.gF rfl rfl rfl rfl ?_
    refine WL.val (Val.pick rfl) rfl ?_
    refine WL.val (Val.assignB rfl) rfl ?_
    refine WL.nil ?_
    refine WX.thenC ?_
    refine WC.ret ?_
    apply WX.doneP (ks := [])
    case hres => exact RunRes.r1 rfl (ResIs.tmpB rfl)
    case hI => first | exact Mem.le.refl _ | assumption
    exact ⟨rfl, rfl, EqP.f fun e => h (by subst e; rfl)⟩
  · skip
    refine WL.val (Val.pick rfl) rfl ?_
    refine WL.val (Val.moveB rfl) rfl ?_
    refine WL.gF rfl rfl rfl rfl ?_
    refine WL.gF rfl rfl rfl rfl ?_
    refine WL.gF rfl rfl rfl rfl ?_
    refine WL.gF rfl rfl rfl rfl ?_
    refine WL.gF rfl rfl rfl rfl ?_
    refine WL.val (Val.pick rfl) rfl ?_
    refine WL.val (Val.moveB rfl) rfl ?_
    refine WL.gF rfl rfl rfl rfl ?_
    refine WL.gF rfl rfl rfl rfl ?_
    refine WL.gF rfl rfl rfl rfl ?_
    refine WL.gF rfl rfl rfl rfl ?_
    refine WL.gF rfl rfl rfl rfl ?_
    refine WL.val (Val.pick rfl) rfl ?_
    refine WL.val (Val.assignB rfl) rfl ?_
    refine WL.nil ?_
    refine WX.thenC ?_
    refine WC.ret ?_
    apply WX.doneP (ks := [])
    case hres => exact RunRes.r1 rfl (ResIs.tmpB rfl)
    case hI => first | exact Mem.le.refl _ | assumption
    exact ⟨rfl, rfl, EqP.f fun e => h (by subst e; rfl)⟩
  · skip
    refine WL.val (Val.pick rfl) rfl ?_
    refine WL.val (Val.moveB rfl) rfl ?_
    refine WL.gF rfl rfl rfl rfl ?_
    refine WL.gF rfl rfl rfl rfl ?_
    refine WL.gF rfl rfl rfl rfl ?_
    refine WL.gF rfl rfl rfl rfl ?_
    refine WL.gF rfl rfl rfl rfl ?_
    refine WL.val (Val.pick rfl) rfl ?_
    refine WL.val (Val.moveB rfl) rfl ?_
    refine WL.gF rfl rfl rfl rfl ?_
    refine WL.gF rfl rfl rfl rfl ?_
    refine WL.gF rfl rfl rfl rfl ?_
    refine WL.gF rfl rfl rfl rfl ?_
    refine WL.gF rfl rfl rfl rfl ?_
    refine WL.val (Val.pick rfl) rfl ?_
    refine WL.val (Val.moveB rfl) rfl ?_
    refine WL.gF rfl rfl rfl rfl ?_
    refine WL.gF rfl rfl rfl rfl ?_
    refine WL.gF rfl rfl rfl rfl ?_
    refine WL.gF rfl rfl rfl rfl ?_
    refine WL.gF rfl rfl rfl rfl ?_
    refine WL.val (Val.pick rfl) rfl ?_
    refine WL.val (Val.assignB rfl) rfl ?_
    refine WL.nil ?_
    refine WX.thenC ?_
    refine WC.ret ?_
    apply WX.doneP (ks := [])
    case hres => exact RunRes.r1 rfl (ResIs.tmpB rfl)
    case hI => first | exact Mem.le.refl _ | assumption
    exact ⟨rfl, rfl, EqP.f fun e => h (by subst e; rfl)⟩
  · skip
    refine WL.val (Val.moveB rfl) rfl ?_
    refine WL.gF rfl rfl rfl rfl ?_
    refine WL.gF rfl rfl rfl rfl ?_
    refine WL.gF rfl rfl rfl rfl ?_
    refine WL.gF rfl rfl rfl rfl ?_
    refine WL.gF rfl rfl rfl rfl ?_
    refine WL.val (Val.pick rfl) rfl ?_
    refine WL.val (Val.moveB rfl) rfl ?_
    refine WL.gF rfl rfl rfl rfl ?_
    refine WL.gF rfl rfl rfl rfl ?_
    refine WL.gF rfl rfl rfl rfl ?_
    refine WL.gF rfl rfl rfl rfl ?_
    refine WL.gF rfl rfl rfl rfl ?_
    refine WL.val (Val.pick rfl) rfl ?_
    refine WL.val (Val.moveB rfl) rfl ?_
    refine WL.gF rfl rfl rfl rfl ?_
    refine WL.gF rfl rfl rfl rfl ?_
    refine WL.gF rfl rfl rfl rfl ?_
    refine WL.gF rfl rfl rfl rfl ?_
    refine WL.gF rfl rfl rfl rfl ?_
    refine WL.val (Val.pick rfl) rfl ?_
    refine WL.val (Val.moveB rfl) rfl ?_
    refine WL.gF rfl rfl rfl rfl ?_
    refine WL.gF rfl rfl rfl rfl ?_
    refine WL.gF rfl rfl rfl rfl ?_
    refine WL.gF rfl rfl rfl rfl ?_
    refine WL.gF rfl rfl rfl rfl ?_
    refine WL.val (Val.pick rfl) rfl ?_
    refine WL.val (Val.assignB rfl) rfl ?_
    refine WL.nil ?_
    refine WX.thenC ?_
    refine WC.ret ?_
    apply WX.doneP (ks := [])
    case hres => exact RunRes.r1 rfl (ResIs.tmpB rfl)
    case hI => first | exact Mem.le.refl _ | assumption
    exact ⟨rfl, rfl, EqP.f fun e => h (by subst e; rfl)⟩
end Go.Proofs.YtggcpoleklcmkaaGreatDoor

/-
  Drawings, the walks: are two things one? (2)
-/

namespace Go.Proofs.YtggcpoleklcmkaaGreatDoor
open Go.Sl Go.Ls Go.Dc
set_option maxRecDepth 100000
set_option maxHeartbeats 4000000
set_option linter.unusedVariables false
set_option linter.unusedSimpArgs false
attribute [local irreducible] WC WL WX WK WA WAK Val Ctr RunRes ResIs Rd At sl box pt Exit.then Exit.inBlock bodyPost Code.wp wpList
theorem eqSty (p q : Sty) (t u d t2 u2 d2 : Value) (I : Mem) (hp : p.at_ I t u d) (hq : q.at_ I t2 u2 d2) :
    Ctr Tryz.prog 61 [.agg (p.cs t u d).toArray, .agg (q.cs t2 u2 d2).toArray] I [] (Still I (EqP (p = q))) := by
  have hp0 := hp
  have hq0 := hq
  obtain ⟨a1, c1, a2, c2, a3, c3, rfl, rfl, rfl⟩ := hp.sl
  obtain ⟨b1, d1, b2, d2, b3, d3, rfl, rfl, rfl⟩ := hq.sl
  refine Ctr.intro Tryz.func61 rfl rfl rfl fun E F => ?_
  refine WC.seq ?_
  refine WC.region ?_
  (refine WL.boxA rfl rfl ?_; intro _)
  refine WL.nApp ?_
  (refine WL.boxA rfl rfl ?_; intro _)
  refine WL.nApp ?_
  refine WL.val (Val.assignB rfl) rfl ?_
  refine WL.nil ?_
  refine WX.thenC ?_
  refine WC.seq ?_
  refine WC.region ?_
  refine WL.ap1 ?_
  refine WL.val (Val.fldAddr rfl) rfl ?_
  refine WL.ap1 ?_
  refine WL.val (Val.ldO 1 rfl rfl rfl) rfl ?_
  refine WL.ap1 ?_
  refine WL.val (Val.fldAddr rfl) rfl ?_
  refine WL.ap1 ?_
  refine WL.val (Val.ldO 2 rfl rfl rfl) rfl ?_
  refine WL.ap1 ?_
  refine WL.callE rfl rfl (eqPnt p.fill q.fill _ _ _ hp.fill hq.fill) rfl (fun h => ?_) (fun h => ?_)
  refine WL.ap1 ?_
  refine WL.val (Val.moveB rfl) rfl ?_
  refine WL.ap1 ?_
  refine WL.gT rfl rfl ?_
  refine WL.val (Val.fldAddr rfl) rfl ?_
  refine WL.ap1 ?_
  refine WL.gT rfl rfl ?_
  refine WL.val (Val.ldO 1 rfl rfl rfl) rfl ?_
  refine WL.ap1 ?_
  refine WL.gT rfl rfl ?_
  refine WL.val (Val.fldAddr rfl) rfl ?_
  refine WL.ap1 ?_
  refine WL.gT rfl rfl ?_
  refine WL.val (Val.ldO 2 rfl rfl rfl) rfl ?_
  refine WL.ap1 ?_
  refine WL.gT rfl rfl ?_
  refine WL.callE rfl rfl (eqPnt p.pen q.pen _ _ _ hp.pen hq.pen) rfl (fun h => ?_) (fun h => ?_)
  refine WL.ap1 ?_
  refine WL.val (Val.pick rfl) rfl ?_
  refine WL.ap1 ?_
  refine WL.val (Val.moveB rfl) rfl ?_
  refine WL.ap1 ?_
  refine WL.gT rfl rfl ?_
  refine WL.val (Val.fldAddr rfl) rfl ?_
  refine WL.ap1 ?_
  refine WL.gT rfl rfl ?_
  refine WL.val (Val.loadS rfl (Rd.own1 1 rfl rfl)) rfl ?_
  refine WL.ap1 ?_
  refine WL.gT rfl rfl ?_
  refine WL.val (Val.fldAddr rfl) rfl ?_
  refine WL.ap1 ?_
  refine WL.gT rfl rfl ?_
  refine WL.val (Val.loadS rfl (Rd.own1 2 rfl rfl)) rfl ?_
  refine WL.ap1 ?_
  refine WL.gT rfl rfl ?_
  refine WL.eqI rfl rfl rfl (fun h => ?_) (fun h => ?_)
  refine WL.ap1 ?_
  refine WL.val (Val.pick rfl) rfl ?_
  refine WL.ap1 ?_
  refine WL.val (Val.moveB rfl) rfl ?_
  refine WL.ap1 ?_
  refine WL.gT rfl rfl ?_
  refine WL.val (Val.fldAddr rfl) rfl ?_
  refine WL.ap1 ?_
  refine WL.gT rfl rfl ?_
  refine WL.val (Val.loadS rfl (Rd.own1 1 rfl rfl)) rfl ?_
  refine WL.ap1 ?_
  refine WL.gT rfl rfl ?_
  refine WL.val (Val.fldAddr rfl) rfl ?_
  refine WL.ap1 ?_
  refine WL.gT rfl rfl ?_
  refine WL.val (Val.loadS rfl (Rd.own1 2 rfl rfl)) rfl ?_
  refine WL.ap1 ?_
  refine WL.gT rfl rfl ?_
  refine WL.eqI rfl rfl rfl (fun h => ?_) (fun h => ?_)
  refine WL.ap1 ?_
  refine WL.val (Val.pick rfl) rfl ?_
  refine WL.ap1 ?_
  refine WL.val (Val.moveB rfl) rfl ?_
  refine WL.ap1 ?_
  refine WL.gT rfl rfl ?_
  refine WL.val (Val.fldAddr rfl) rfl ?_
  refine WL.ap1 ?_
  refine WL.gT rfl rfl ?_
  refine WL.val (Val.loadS rfl (Rd.own1 1 rfl rfl)) rfl ?_
  refine WL.ap1 ?_
  refine WL.gT rfl rfl ?_
  refine WL.val (Val.fldAddr rfl) rfl ?_
  refine WL.ap1 ?_
  refine WL.gT rfl rfl ?_
  refine WL.val (Val.loadS rfl (Rd.own1 2 rfl rfl)) rfl ?_
  refine WL.ap1 ?_
  refine WL.gT rfl rfl ?_
  refine WL.eqI rfl rfl rfl (fun h => ?_) (fun h => ?_)
  refine WL.ap1 ?_
  refine WL.val (Val.pick rfl) rfl ?_
  refine WL.ap0 ?_
  refine WL.val (Val.moveB rfl) rfl ?_
  refine WL.gT rfl rfl ?_
  refine WL.val (Val.fldAddr rfl) rfl ?_
  refine WL.gT rfl rfl ?_
  refine WL.val (Val.fldAddr rfl) rfl ?_
  refine WL.gT rfl rfl ?_
  refine WL.val (Val.loadS rfl (Rd.own1 1 rfl rfl)) rfl ?_
  refine WL.gT rfl rfl ?_
  refine WL.val (Val.fldAddr rfl) rfl ?_
  refine WL.gT rfl rfl ?_
  refine WL.val (Val.fldAddr rfl) rfl ?_
  refine WL.gT rfl rfl ?_
  refine WL.val (Val.loadS rfl (Rd.own1 2 rfl rfl)) rfl ?_
  refine WL.gT rfl rfl ?_
  refine WL.callE rfl rfl (eqInt _ _ _ _ _ hp.dash hq.dash) rfl (fun h => ?_) (fun h => ?_)
  refine WL.val (Val.pick rfl) rfl ?_
  refine WL.val (Val.moveB rfl) rfl ?_
  refine WL.gT rfl rfl ?_
  refine WL.val (Val.fldAddr rfl) rfl ?_
  refine WL.gT rfl rfl ?_
  refine WL.val (Val.fldAddr rfl) rfl ?_
  refine WL.gT rfl rfl ?_
  refine WL.val (Val.loadS rfl (Rd.own1 1 rfl rfl)) rfl ?_
  refine WL.gT rfl rfl ?_
  refine WL.val (Val.fldAddr rfl) rfl ?_
  refine WL.gT rfl rfl ?_
  refine WL.val (Val.fldAddr rfl) rfl ?_
  refine WL.gT rfl rfl ?_
  refine WL.val (Val.loadS rfl (Rd.own1 2 rfl rfl)) rfl ?_
  refine WL.gT rfl rfl ?_
  refine WL.eqI rfl rfl rfl (fun h => ?_) (fun h => ?_)
  refine WL.val (Val.pick rfl) rfl ?_
  refine WL.val (Val.moveB rfl) rfl ?_
  refine WL.gT rfl rfl ?_
  refine WL.val (Val.fldAddr rfl) rfl ?_
  refine WL.gT rfl rfl ?_
  refine WL.val (Val.loadS rfl (Rd.own1 1 rfl rfl)) rfl ?_
  refine WL.gT rfl rfl ?_
  refine WL.val (Val.fldAddr rfl) rfl ?_
  refine WL.gT rfl rfl ?_
  refine WL.val (Val.loadS rfl (Rd.own1 2 rfl rfl)) rfl ?_
  refine WL.gT rfl rfl ?_
  refine WL.eqI rfl rfl rfl (fun h => ?_) (fun h => ?_)
  refine WL.val (Val.pick rfl) rfl ?_
  refine WL.val (Val.moveB rfl) rfl ?_
  refine WL.gT rfl rfl ?_
  refine WL.val (Val.fldAddr rfl) rfl ?_
  refine WL.gT rfl rfl ?_
  refine WL.val (Val.loadS rfl (Rd.own1 1 rfl rfl)) rfl ?_
  refine WL.gT rfl rfl ?_
  refine WL.val (Val.fldAddr rfl) rfl ?_
  refine WL.gT rfl rfl ?_
  refine WL.val (Val.loadS rfl (Rd.own1 2 rfl rfl)) rfl ?_
  refine WL.gT rfl rfl ?_
  refine WL.eqI rfl rfl rfl (fun h => ?_) (fun h => ?_)
  refine WL.val (Val.pick rfl) rfl ?_
  refine WL.val (Val.assignB rfl) rfl ?_
  refine WL.nil ?_
  refine WX.thenC ?_
  refine WC.ret ?_
  apply WX.doneP (ks := [])
  case hres => exact RunRes.r1 rfl (ResIs.tmpB rfl)
  case hI => first | exact Mem.le.refl _ | assumption
  rename_i h0 h1 h2 h3 h4 h5 h6 h7
  exact ⟨rfl, rfl, EqP.t (Sty.of h0 h1 h2 h3 h4 h5 h6 h7 h)⟩
  · skip
    refine WL.val (Val.pick rfl) rfl ?_
    refine WL.val (Val.assignB rfl) rfl ?_
    refine WL.nil ?_
    refine WX.thenC ?_
    refine WC.ret ?_
    apply WX.doneP (ks := [])
    case hres => exact RunRes.r1 rfl (ResIs.tmpB rfl)
    case hI => first | exact Mem.le.refl _ | assumption
    exact ⟨rfl, rfl, EqP.f fun e => h (by subst e; rfl)⟩
  · skip
    refine WL.val (Val.pick rfl) rfl ?_
    refine WL.val (Val.moveB rfl) rfl ?_
    refine WL.gF rfl rfl rfl rfl ?_
    refine WL.gF rfl rfl rfl rfl ?_
    refine WL.gF rfl rfl rfl rfl ?_
    refine WL.gF rfl rfl rfl rfl ?_
    refine WL.gF rfl rfl rfl rfl ?_
    refine WL.val (Val.pick rfl) rfl ?_
    refine WL.val (Val.assignB rfl) rfl ?_
    refine WL.nil ?_
    refine WX.thenC ?_
    refine WC.ret ?_
    apply WX.doneP (ks := [])
    case hres => exact RunRes.r1 rfl (ResIs.tmpB rfl)
    case hI => first | exact Mem.le.refl _ | assumption
    exact ⟨rfl, rfl, EqP.f fun e => h (by subst e; rfl)⟩
  · skip
    refine WL.val (Val.pick rfl) rfl ?_
    refine WL.val (Val.moveB rfl) rfl ?_
    refine WL.gF rfl rfl rfl rfl ?_
    refine WL.gF rfl rfl rfl rfl ?_
    refine WL.gF rfl rfl rfl rfl ?_
    refine WL.gF rfl rfl rfl rfl ?_
    refine WL.gF rfl rfl rfl rfl ?_
    refine WL.val (Val.pick rfl) rfl ?_
    refine WL.val (Val.moveB rfl) rfl ?_
    refine WL.gF rfl rfl rfl rfl ?_
    refine WL.gF rfl rfl rfl rfl ?_
    refine WL.gF rfl rfl rfl rfl ?_
    refine WL.gF rfl rfl rfl rfl ?_
    refine WL.gF rfl rfl rfl rfl ?_
    refine WL.val (Val.pick rfl) rfl ?_
    refine WL.val (Val.assignB rfl) rfl ?_
    refine WL.nil ?_
    refine WX.thenC ?_
    refine WC.ret ?_
    apply WX.doneP (ks := [])
    case hres => exact RunRes.r1 rfl (ResIs.tmpB rfl)
    case hI => first | exact Mem.le.refl _ | assumption
    exact ⟨rfl, rfl, EqP.f fun e => h (by subst e; rfl)⟩
  · skip
    refine WL.val (Val.pick rfl) rfl ?_
    refine WL.val (Val.moveB rfl) rfl ?_
    refine WL.gF rfl rfl rfl rfl ?_
    refine WL.gF rfl rfl rfl rfl ?_
    refine WL.gF rfl rfl rfl rfl ?_
    refine WL.gF rfl rfl rfl rfl ?_
    refine WL.gF rfl rfl rfl rfl ?_
    refine WL.gF rfl rfl rfl rfl ?_
    refine WL.gF rfl rfl rfl rfl ?_
    refine WL.val (Val.pick rfl) rfl ?_
    refine WL.val (Val.moveB rfl) rfl ?_
    refine WL.gF rfl rfl rfl rfl ?_
    refine WL.gF rfl rfl rfl rfl ?_
    refine WL.gF rfl rfl rfl rfl ?_
    refine WL.gF rfl rfl rfl rfl ?_
    refine WL.gF rfl rfl rfl rfl ?_
    refine WL.val (Val.pick rfl) rfl ?_
    refine WL.val (Val.moveB rfl) rfl ?_
    refine WL.gF rfl rfl rfl rfl ?_
    refine WL.gF rfl rfl rfl rfl ?_
    refine WL.gF rfl rfl rfl rfl ?_
    refine WL.gF rfl rfl rfl rfl ?_
    refine WL.gF rfl rfl rfl rfl ?_
    refine WL.val (Val.pick rfl) rfl ?_
    refine WL.val (Val.assignB rfl) rfl ?_
    refine WL.nil ?_
    refine WX.thenC ?_
    refine WC.ret ?_
    apply WX.doneP (ks := [])
    case hres => exact RunRes.r1 rfl (ResIs.tmpB rfl)
    case hI => first | exact Mem.le.refl _ | assumption
    exact ⟨rfl, rfl, EqP.f fun e => h (by subst e; rfl)⟩
  · skip
    refine WL.ap1 ?_
    refine WL.val (Val.pick rfl) rfl ?_
    refine WL.ap0 ?_
    refine WL.val (Val.moveB rfl) rfl ?_
    refine WL.gF rfl rfl rfl rfl ?_
    refine WL.gF rfl rfl rfl rfl ?_
    refine WL.gF rfl rfl rfl rfl ?_
    refine WL.gF rfl rfl rfl rfl ?_
    refine WL.gF rfl rfl rfl rfl ?_
    refine WL.gF rfl rfl rfl rfl ?_
    refine WL.gF rfl rfl rfl rfl ?_
    refine WL.val (Val.pick rfl) rfl ?_
    refine WL.val (Val.moveB rfl) rfl ?_
    refine WL.gF rfl rfl rfl rfl ?_
    refine WL.gF rfl rfl rfl rfl ?_
    refine WL.gF rfl rfl rfl rfl ?_
    refine WL.gF rfl rfl rfl rfl ?_
    refine WL.gF rfl rfl rfl rfl ?_
    refine WL.gF rfl rfl rfl rfl ?_
    refine WL.gF rfl rfl rfl rfl ?_
    refine WL.val (Val.pick rfl) rfl ?_
    refine WL.val (Val.moveB rfl) rfl ?_
    refine WL.gF rfl rfl rfl rfl ?_
    refine WL.gF rfl rfl rfl rfl ?_
    refine WL.gF rfl rfl rfl rfl ?_
    refine WL.gF rfl rfl rfl rfl ?_
    refine WL.gF rfl rfl rfl rfl ?_
    refine WL.val (Val.pick rfl) rfl ?_
    refine WL.val (Val.moveB rfl) rfl ?_
    refine WL.gF rfl rfl rfl rfl ?_
    refine WL.gF rfl rfl rfl rfl ?_
    refine WL.gF rfl rfl rfl rfl ?_
    refine WL.gF rfl rfl rfl rfl ?_
    refine WL.gF rfl rfl rfl rfl ?_
    refine WL.val (Val.pick rfl) rfl ?_
    refine WL.val (Val.assignB rfl) rfl ?_
    refine WL.nil ?_
    refine WX.thenC ?_
    refine WC.ret ?_
    apply WX.doneP (ks := [])
    case hres => exact RunRes.r1 rfl (ResIs.tmpB rfl)
    case hI => first | exact Mem.le.refl _ | assumption
    exact ⟨rfl, rfl, EqP.f fun e => h (by subst e; rfl)⟩
  · skip
    refine WL.ap1 ?_
    refine WL.val (Val.pick rfl) rfl ?_
    refine WL.ap1 ?_
    refine WL.val (Val.moveB rfl) rfl ?_
    refine WL.ap1 ?_
    refine WL.gF rfl rfl rfl rfl ?_
    refine WL.ap1 ?_
    refine WL.gF rfl rfl rfl rfl ?_
    refine WL.ap1 ?_
    refine WL.gF rfl rfl rfl rfl ?_
    refine WL.ap1 ?_
    refine WL.gF rfl rfl rfl rfl ?_
    refine WL.ap1 ?_
    refine WL.gF rfl rfl rfl rfl ?_
    refine WL.ap1 ?_
    refine WL.val (Val.pick rfl) rfl ?_
    refine WL.ap0 ?_
    refine WL.val (Val.moveB rfl) rfl ?_
    refine WL.gF rfl rfl rfl rfl ?_
    refine WL.gF rfl rfl rfl rfl ?_
    refine WL.gF rfl rfl rfl rfl ?_
    refine WL.gF rfl rfl rfl rfl ?_
    refine WL.gF rfl rfl rfl rfl ?_
    refine WL.gF rfl rfl rfl rfl ?_
    refine WL.gF rfl rfl rfl rfl ?_
    refine WL.val (Val.pick rfl) rfl ?_
    refine WL.val (Val.moveB rfl) rfl ?_
    refine WL.gF rfl rfl rfl rfl ?_
    refine WL.gF rfl rfl rfl rfl ?_
    refine WL.gF rfl rfl rfl rfl ?_
    refine WL.gF rfl rfl rfl rfl ?_
    refine WL.gF rfl rfl rfl rfl ?_
    refine WL.gF rfl rfl rfl rfl ?_
    refine WL.gF rfl rfl rfl rfl ?_
    refine WL.val (Val.pick rfl) rfl ?_
    refine WL.val (Val.moveB rfl) rfl ?_
    refine WL.gF rfl rfl rfl rfl ?_
    refine WL.gF rfl rfl rfl rfl ?_
    refine WL.gF rfl rfl rfl rfl ?_
    refine WL.gF rfl rfl rfl rfl ?_
    refine WL.gF rfl rfl rfl rfl ?_
    refine WL.val (Val.pick rfl) rfl ?_
    refine WL.val (Val.moveB rfl) rfl ?_
    refine WL.gF rfl rfl rfl rfl ?_
    refine WL.gF rfl rfl rfl rfl ?_
    refine WL.gF rfl rfl rfl rfl ?_
    refine WL.gF rfl rfl rfl rfl ?_
    refine WL.gF rfl rfl rfl rfl ?_
    refine WL.val (Val.pick rfl) rfl ?_
    refine WL.val (Val.assignB rfl) rfl ?_
    refine WL.nil ?_
    refine WX.thenC ?_
    refine WC.ret ?_
    apply WX.doneP (ks := [])
    case hres => exact RunRes.r1 rfl (ResIs.tmpB rfl)
    case hI => first | exact Mem.le.refl _ | assumption
    exact ⟨rfl, rfl, EqP.f fun e => h (by subst e; rfl)⟩
  · skip
    refine WL.ap1 ?_
    refine WL.val (Val.pick rfl) rfl ?_
    refine WL.ap1 ?_
    refine WL.val (Val.moveB rfl) rfl ?_
    refine WL.ap1 ?_
    refine WL.gF rfl rfl rfl rfl ?_
    refine WL.ap1 ?_
    refine WL.gF rfl rfl rfl rfl ?_
    refine WL.ap1 ?_
    refine WL.gF rfl rfl rfl rfl ?_
    refine WL.ap1 ?_
    refine WL.gF rfl rfl rfl rfl ?_
    refine WL.ap1 ?_
    refine WL.gF rfl rfl rfl rfl ?_
    refine WL.ap1 ?_
    refine WL.val (Val.pick rfl) rfl ?_
    refine WL.ap1 ?_
    refine WL.val (Val.moveB rfl) rfl ?_
    refine WL.ap1 ?_
    refine WL.gF rfl rfl rfl rfl ?_
    refine WL.ap1 ?_
    refine WL.gF rfl rfl rfl rfl ?_
    refine WL.ap1 ?_
    refine WL.gF rfl rfl rfl rfl ?_
    refine WL.ap1 ?_
    refine WL.gF rfl rfl rfl rfl ?_
    refine WL.ap1 ?_
    refine WL.gF rfl rfl rfl rfl ?_
    refine WL.ap1 ?_
    refine WL.val (Val.pick rfl) rfl ?_
    refine WL.ap0 ?_
    refine WL.val (Val.moveB rfl) rfl ?_
    refine WL.gF rfl rfl rfl rfl ?_
    refine WL.gF rfl rfl rfl rfl ?_
    refine WL.gF rfl rfl rfl rfl ?_
    refine WL.gF rfl rfl rfl rfl ?_
    refine WL.gF rfl rfl rfl rfl ?_
    refine WL.gF rfl rfl rfl rfl ?_
    refine WL.gF rfl rfl rfl rfl ?_
    refine WL.val (Val.pick rfl) rfl ?_
    refine WL.val (Val.moveB rfl) rfl ?_
    refine WL.gF rfl rfl rfl rfl ?_
    refine WL.gF rfl rfl rfl rfl ?_
    refine WL.gF rfl rfl rfl rfl ?_
    refine WL.gF rfl rfl rfl rfl ?_
    refine WL.gF rfl rfl rfl rfl ?_
    refine WL.gF rfl rfl rfl rfl ?_
    refine WL.gF rfl rfl rfl rfl ?_
    refine WL.val (Val.pick rfl) rfl ?_
    refine WL.val (Val.moveB rfl) rfl ?_
    refine WL.gF rfl rfl rfl rfl ?_
    refine WL.gF rfl rfl rfl rfl ?_
    refine WL.gF rfl rfl rfl rfl ?_
    refine WL.gF rfl rfl rfl rfl ?_
    refine WL.gF rfl rfl rfl rfl ?_
    refine WL.val (Val.pick rfl) rfl ?_
    refine WL.val (Val.moveB rfl) rfl ?_
    refine WL.gF rfl rfl rfl rfl ?_
    refine WL.gF rfl rfl rfl rfl ?_
    refine WL.gF rfl rfl rfl rfl ?_
    refine WL.gF rfl rfl rfl rfl ?_
    refine WL.gF rfl rfl rfl rfl ?_
    refine WL.val (Val.pick rfl) rfl ?_
    refine WL.val (Val.assignB rfl) rfl ?_
    refine WL.nil ?_
    refine WX.thenC ?_
    refine WC.ret ?_
    apply WX.doneP (ks := [])
    case hres => exact RunRes.r1 rfl (ResIs.tmpB rfl)
    case hI => first | exact Mem.le.refl _ | assumption
    exact ⟨rfl, rfl, EqP.f fun e => h (by subst e; rfl)⟩
  · skip
    refine WL.ap1 ?_
    refine WL.val (Val.pick rfl) rfl ?_
    refine WL.ap1 ?_
    refine WL.val (Val.moveB rfl) rfl ?_
    refine WL.ap1 ?_
    refine WL.gF rfl rfl rfl rfl ?_
    refine WL.ap1 ?_
    refine WL.gF rfl rfl rfl rfl ?_
    refine WL.ap1 ?_
    refine WL.gF rfl rfl rfl rfl ?_
    refine WL.ap1 ?_
    refine WL.gF rfl rfl rfl rfl ?_
    refine WL.ap1 ?_
    refine WL.gF rfl rfl rfl rfl ?_
    refine WL.ap1 ?_
    refine WL.val (Val.pick rfl) rfl ?_
    refine WL.ap1 ?_
    refine WL.val (Val.moveB rfl) rfl ?_
    refine WL.ap1 ?_
    refine WL.gF rfl rfl rfl rfl ?_
    refine WL.ap1 ?_
    refine WL.gF rfl rfl rfl rfl ?_
    refine WL.ap1 ?_
    refine WL.gF rfl rfl rfl rfl ?_
    refine WL.ap1 ?_
    refine WL.gF rfl rfl rfl rfl ?_
    refine WL.ap1 ?_
    refine WL.gF rfl rfl rfl rfl ?_
    refine WL.ap1 ?_
    refine WL.val (Val.pick rfl) rfl ?_
    refine WL.ap1 ?_
    refine WL.val (Val.moveB rfl) rfl ?_
    refine WL.ap1 ?_
    refine WL.gF rfl rfl rfl rfl ?_
    refine WL.ap1 ?_
    refine WL.gF rfl rfl rfl rfl ?_
    refine WL.ap1 ?_
    refine WL.gF rfl rfl rfl rfl ?_
    refine WL.ap1 ?_
    refine WL.gF rfl rfl rfl rfl ?_
    refine WL.ap1 ?_
    refine WL.gF rfl rfl rfl rfl ?_
    refine WL.ap1 ?_
    refine WL.val (Val.pick rfl) rfl ?_
    refine WL.ap0 ?_
    refine WL.val (Val.moveB rfl) rfl ?_
    refine WL.gF rfl rfl rfl rfl ?_
    refine WL.gF rfl rfl rfl rfl ?_
    refine WL.gF rfl rfl rfl rfl ?_
    refine WL.gF rfl rfl rfl rfl ?_
    refine WL.gF rfl rfl rfl rfl ?_
    refine WL.gF rfl rfl rfl rfl ?_
    refine WL.gF rfl rfl rfl rfl ?_
    refine WL.val (Val.pick rfl) rfl ?_
    refine WL.val (Val.moveB rfl) rfl ?_
    refine WL.gF rfl rfl rfl rfl ?_
    refine WL.gF rfl rfl rfl rfl ?_
    refine WL.gF rfl rfl rfl rfl ?_
    refine WL.gF rfl rfl rfl rfl ?_
    refine WL.gF rfl rfl rfl rfl ?_
    refine WL.gF rfl rfl rfl rfl ?_
    refine WL.gF rfl rfl rfl rfl ?_
    refine WL.val (Val.pick rfl) rfl ?_
    refine WL.val (Val.moveB rfl) rfl ?_
    refine WL.gF rfl rfl rfl rfl ?_
    refine WL.gF rfl rfl rfl rfl ?_
    refine WL.gF rfl rfl rfl rfl ?_
    refine WL.gF rfl rfl rfl rfl ?_
    refine WL.gF rfl rfl rfl rfl ?_
    refine WL.val (Val.pick rfl) rfl ?_
    refine WL.val (Val.moveB rfl) rfl ?_
    refine WL.gF rfl rfl rfl rfl ?_
    refine WL.gF rfl rfl rfl rfl ?_
    refine WL.gF rfl rfl rfl rfl ?_
    refine WL.gF rfl rfl rfl rfl ?_
    refine WL.gF rfl rfl rfl rfl ?_
    refine WL.val (Val.pick rfl) rfl ?_
    refine WL.val (Val.assignB rfl) rfl ?_
    refine WL.nil ?_
    refine WX.thenC ?_
    refine WC.ret ?_
    apply WX.doneP (ks := [])
    case hres => exact RunRes.r1 rfl (ResIs.tmpB rfl)
    case hI => first | exact Mem.le.refl _ | assumption
    exact ⟨rfl, rfl, EqP.f fun e => h (by subst e; rfl)⟩
  · skip
    refine WL.ap1 ?_
    refine WL.val (Val.moveB rfl) rfl ?_
    refine WL.ap1 ?_
    refine WL.gF rfl rfl rfl rfl ?_
    refine WL.ap1 ?_
    refine WL.gF rfl rfl rfl rfl ?_
    refine WL.ap1 ?_
    refine WL.gF rfl rfl rfl rfl ?_
    refine WL.ap1 ?_
    refine WL.gF rfl rfl rfl rfl ?_
    refine WL.ap1 ?_
    refine WL.gF rfl rfl rfl rfl ?_
    refine WL.ap1 ?_
    refine WL.val (Val.pick rfl) rfl ?_
    refine WL.ap1 ?_
    refine WL.val (Val.moveB rfl) rfl ?_
    refine WL.ap1 ?_
    refine WL.gF rfl rfl rfl rfl ?_
    refine WL.ap1 ?_
    refine WL.gF rfl rfl rfl rfl ?_
    refine WL.ap1 ?_
    refine WL.gF rfl rfl rfl rfl ?_
    refine WL.ap1 ?_
    refine WL.gF rfl rfl rfl rfl ?_
    refine WL.ap1 ?_
    refine WL.gF rfl rfl rfl rfl ?_
    refine WL.ap1 ?_
    refine WL.val (Val.pick rfl) rfl ?_
    refine WL.ap1 ?_
    refine WL.val (Val.moveB rfl) rfl ?_
    refine WL.ap1 ?_
    refine WL.gF rfl rfl rfl rfl ?_
    refine WL.ap1 ?_
    refine WL.gF rfl rfl rfl rfl ?_
    refine WL.ap1 ?_
    refine WL.gF rfl rfl rfl rfl ?_
    refine WL.ap1 ?_
    refine WL.gF rfl rfl rfl rfl ?_
    refine WL.ap1 ?_
    refine WL.gF rfl rfl rfl rfl ?_
    refine WL.ap1 ?_
    refine WL.val (Val.pick rfl) rfl ?_
    refine WL.ap1 ?_
    refine WL.val (Val.moveB rfl) rfl ?_
    refine WL.ap1 ?_
    refine WL.gF rfl rfl rfl rfl ?_
    refine WL.ap1 ?_
    refine WL.gF rfl rfl rfl rfl ?_
    refine WL.ap1 ?_
    refine WL.gF rfl rfl rfl rfl ?_
    refine WL.ap1 ?_
    refine WL.gF rfl rfl rfl rfl ?_
    refine WL.ap1 ?_
    refine WL.gF rfl rfl rfl rfl ?_
    refine WL.ap1 ?_
    refine WL.val (Val.pick rfl) rfl ?_
    refine WL.ap0 ?_
    refine WL.val (Val.moveB rfl) rfl ?_
    refine WL.gF rfl rfl rfl rfl ?_
    refine WL.gF rfl rfl rfl rfl ?_
    refine WL.gF rfl rfl rfl rfl ?_
    refine WL.gF rfl rfl rfl rfl ?_
    refine WL.gF rfl rfl rfl rfl ?_
    refine WL.gF rfl rfl rfl rfl ?_
    refine WL.gF rfl rfl rfl rfl ?_
    refine WL.val (Val.pick rfl) rfl ?_
    refine WL.val (Val.moveB rfl) rfl ?_
    refine WL.gF rfl rfl rfl rfl ?_
    refine WL.gF rfl rfl rfl rfl ?_
    refine WL.gF rfl rfl rfl rfl ?_
    refine WL.gF rfl rfl rfl rfl ?_
    refine WL.gF rfl rfl rfl rfl ?_
    refine WL.gF rfl rfl rfl rfl ?_
    refine WL.gF rfl rfl rfl rfl ?_
    refine WL.val (Val.pick rfl) rfl ?_
    refine WL.val (Val.moveB rfl) rfl ?_
    refine WL.gF rfl rfl rfl rfl ?_
    refine WL.gF rfl rfl rfl rfl ?_
    refine WL.gF rfl rfl rfl rfl ?_
    refine WL.gF rfl rfl rfl rfl ?_
    refine WL.gF rfl rfl rfl rfl ?_
    refine WL.val (Val.pick rfl) rfl ?_
    refine WL.val (Val.moveB rfl) rfl ?_
    refine WL.gF rfl rfl rfl rfl ?_
    refine WL.gF rfl rfl rfl rfl ?_
    refine WL.gF rfl rfl rfl rfl ?_
    refine WL.gF rfl rfl rfl rfl ?_
    refine WL.gF rfl rfl rfl rfl ?_
    refine WL.val (Val.pick rfl) rfl ?_
    refine WL.val (Val.assignB rfl) rfl ?_
    refine WL.nil ?_
    refine WX.thenC ?_
    refine WC.ret ?_
    apply WX.doneP (ks := [])
    case hres => exact RunRes.r1 rfl (ResIs.tmpB rfl)
    case hI => first | exact Mem.le.refl _ | assumption
    exact ⟨rfl, rfl, EqP.f fun e => h (by subst e; rfl)⟩
theorem eqPath (l m : List Sg) (v u : Value) (I : Mem) (hv : LsAt Sg.rep I l v) (hu : LsAt Sg.rep I m u) :
    Ctr Tryz.prog 62 [v, u] I [] (Still I (EqP (l = m))) := by
  have hv0 := hv
  have hu0 := hu
  obtain ⟨a1, c1, rfl⟩ := hv.sl
  obtain ⟨a2, c2, rfl⟩ := hu.sl
  refine Ctr.intro Tryz.func62 rfl rfl rfl fun E F => ?_
  refine WC.seq ?_
  refine WC.region ?_
  refine WL.val (Val.assignB rfl) rfl ?_
  refine WL.nil ?_
  refine WX.thenC ?_
  refine WC.seq ?_
  refine WC.region ?_
  refine WL.val (Val.moveS rfl) rfl ?_
  refine WL.val (Val.moveS rfl) rfl ?_
  refine WL.callE rfl rfl (eqSg _ _ _ _ _ hv hu) rfl (fun h => ?_) (fun h => ?_)
  · skip
    refine WL.val (Val.assignB rfl) rfl ?_
    refine WL.nil ?_
    refine WX.thenC ?_
    refine WC.ret ?_
    apply WX.doneP (ks := [])
    case hres => exact RunRes.r1 rfl (ResIs.tmpB rfl)
    case hI => first | exact Mem.le.refl _ | assumption
    exact ⟨rfl, rfl, EqP.t h⟩
  · skip
    refine WL.val (Val.assignB rfl) rfl ?_
    refine WL.nil ?_
    refine WX.thenC ?_
    refine WC.ret ?_
    apply WX.doneP (ks := [])
    case hres => exact RunRes.r1 rfl (ResIs.tmpB rfl)
    case hI => first | exact Mem.le.refl _ | assumption
    exact ⟨rfl, rfl, EqP.f h⟩
theorem eqAtr (p q : Atr) (t u d r t2 u2 d2 r2 : Value) (I : Mem) (hp : p.at_ I t u d r) (hq : q.at_ I t2 u2 d2 r2) :
    Ctr Tryz.prog 20 [.agg (p.cs t u d r).toArray, .agg (q.cs t2 u2 d2 r2).toArray] I [] (Still I (EqP (p = q))) := by
  obtain ⟨a1, c1, a2, c2, a3, c3, a4, c4, rfl, rfl, rfl, rfl⟩ := hp.sl
  obtain ⟨b1, d1, b2, d2, b3, d3, b4, d4, rfl, rfl, rfl, rfl⟩ := hq.sl
  refine Ctr.intro Tryz.func20 rfl rfl rfl fun E F => ?_
  refine WC.seq ?_
  refine WC.region ?_
  (refine WL.boxA rfl rfl ?_; intro _)
  refine WL.nApp ?_
  (refine WL.boxA rfl rfl ?_; intro _)
  refine WL.nApp ?_
  refine WL.val (Val.assignB rfl) rfl ?_
  refine WL.nil ?_
  refine WX.thenC ?_
  refine WC.seq ?_
  refine WC.region ?_
  refine WL.val (Val.fldAddr rfl) rfl ?_
  refine WL.val (Val.ldO 1 rfl rfl rfl) rfl ?_
  refine WL.val (Val.fldAddr rfl) rfl ?_
  refine WL.val (Val.ldO 2 rfl rfl rfl) rfl ?_
  refine WL.eqS rfl rfl rfl rfl rfl (fun h => ?_) (fun h => ?_)
  refine WL.val (Val.moveB rfl) rfl ?_
  refine WL.gT rfl rfl ?_
  refine WL.val (Val.fldAddr rfl) rfl ?_
  refine WL.gT rfl rfl ?_
  refine WL.val (Val.ldO 1 rfl rfl rfl) rfl ?_
  refine WL.gT rfl rfl ?_
  refine WL.val (Val.fldAddr rfl) rfl ?_
  refine WL.gT rfl rfl ?_
  refine WL.val (Val.ldO 2 rfl rfl rfl) rfl ?_
  refine WL.gT rfl rfl ?_
  refine WL.callE rfl rfl (eqSty p.sty q.sty _ _ _ _ _ _ _ hp.sty hq.sty) rfl (fun h => ?_) (fun h => ?_)
  refine WL.val (Val.pick rfl) rfl ?_
  refine WL.val (Val.moveB rfl) rfl ?_
  refine WL.gT rfl rfl ?_
  refine WL.val (Val.fldAddr rfl) rfl ?_
  refine WL.gT rfl rfl ?_
  refine WL.val (Val.loadS rfl (Rd.own1 1 rfl rfl)) rfl ?_
  refine WL.gT rfl rfl ?_
  refine WL.val (Val.fldAddr rfl) rfl ?_
  refine WL.gT rfl rfl ?_
  refine WL.val (Val.loadS rfl (Rd.own1 2 rfl rfl)) rfl ?_
  refine WL.gT rfl rfl ?_
  refine WL.callE rfl rfl (eqPath p.path q.path _ _ _ hp.path hq.path) rfl (fun h => ?_) (fun h => ?_)
  refine WL.val (Val.pick rfl) rfl ?_
  refine WL.val (Val.assignB rfl) rfl ?_
  refine WL.nil ?_
  refine WX.thenC ?_
  refine WC.ret ?_
  apply WX.doneP (ks := [])
  case hres => exact RunRes.r1 rfl (ResIs.tmpB rfl)
  case hI => first | exact Mem.le.refl _ | assumption
  rename_i h0 h1
  exact ⟨rfl, rfl, EqP.t (Atr.of (Mtx.inj h0) h1 h)⟩
  · skip
    refine WL.val (Val.pick rfl) rfl ?_
    refine WL.val (Val.assignB rfl) rfl ?_
    refine WL.nil ?_
    refine WX.thenC ?_
    refine WC.ret ?_
    apply WX.doneP (ks := [])
    case hres => exact RunRes.r1 rfl (ResIs.tmpB rfl)
    case hI => first | exact Mem.le.refl _ | assumption
    exact ⟨rfl, rfl, EqP.f fun e => h (by subst e; rfl)⟩
  · skip
    refine WL.val (Val.pick rfl) rfl ?_
    refine WL.val (Val.moveB rfl) rfl ?_
    refine WL.gF rfl rfl rfl rfl ?_
    refine WL.gF rfl rfl rfl rfl ?_
    refine WL.gF rfl rfl rfl rfl ?_
    refine WL.gF rfl rfl rfl rfl ?_
    refine WL.gF rfl rfl rfl rfl ?_
    refine WL.val (Val.pick rfl) rfl ?_
    refine WL.val (Val.assignB rfl) rfl ?_
    refine WL.nil ?_
    refine WX.thenC ?_
    refine WC.ret ?_
    apply WX.doneP (ks := [])
    case hres => exact RunRes.r1 rfl (ResIs.tmpB rfl)
    case hI => first | exact Mem.le.refl _ | assumption
    exact ⟨rfl, rfl, EqP.f fun e => h (by subst e; rfl)⟩
  · skip
    refine WL.val (Val.moveB rfl) rfl ?_
    refine WL.gF rfl rfl rfl rfl ?_
    refine WL.gF rfl rfl rfl rfl ?_
    refine WL.gF rfl rfl rfl rfl ?_
    refine WL.gF rfl rfl rfl rfl ?_
    refine WL.gF rfl rfl rfl rfl ?_
    refine WL.val (Val.pick rfl) rfl ?_
    refine WL.val (Val.moveB rfl) rfl ?_
    refine WL.gF rfl rfl rfl rfl ?_
    refine WL.gF rfl rfl rfl rfl ?_
    refine WL.gF rfl rfl rfl rfl ?_
    refine WL.gF rfl rfl rfl rfl ?_
    refine WL.gF rfl rfl rfl rfl ?_
    refine WL.val (Val.pick rfl) rfl ?_
    refine WL.val (Val.assignB rfl) rfl ?_
    refine WL.nil ?_
    refine WX.thenC ?_
    refine WC.ret ?_
    apply WX.doneP (ks := [])
    case hres => exact RunRes.r1 rfl (ResIs.tmpB rfl)
    case hI => first | exact Mem.le.refl _ | assumption
    exact ⟨rfl, rfl, EqP.f fun e => h (by subst e; rfl)⟩
end Go.Proofs.YtggcpoleklcmkaaGreatDoor

/-
  Drawings, the walks: numbers, points, matrices, colours that are right.
-/

namespace Go.Proofs.YtggcpoleklcmkaaGreatDoor
open Go.Sl Go.Ls Go.Dc
set_option maxRecDepth 100000
set_option maxHeartbeats 4000000
set_option linter.unusedVariables false
set_option linter.unusedSimpArgs false
attribute [local irreducible] WC WL WX WK WA WAK Val Ctr RunRes ResIs Rd At sl box pt Exit.then Exit.inBlock bodyPost Code.wp wpList
theorem room_ctr (a : Int) (I : Mem) : Ctr Tryz.prog 53 [vi a] I [] (Still I (EqP (Room a))) := by
  refine Ctr.intro Tryz.func53 rfl rfl rfl fun E F => ?_
  refine WC.seq ?_
  refine WC.region ?_
  refine WL.val (Val.assignB rfl) rfl ?_
  refine WL.nil ?_
  refine WX.thenC ?_
  refine WC.seq ?_
  refine WC.region ?_
  refine WL.val (Val.moveI rfl) rfl ?_
  refine WL.geI rfl rfl rfl (fun h => ?_) (fun h => ?_)
  refine WL.val (Val.moveB rfl) rfl ?_
  refine WL.gT rfl rfl ?_
  refine WL.val (Val.moveI rfl) rfl ?_
  refine WL.gT rfl rfl ?_
  refine WL.leI rfl rfl rfl (fun h => ?_) (fun h => ?_)
  refine WL.val (Val.pick rfl) rfl ?_
  refine WL.val (Val.assignB rfl) rfl ?_
  refine WL.nil ?_
  refine WX.thenC ?_
  refine WC.ret ?_
  rotate_left
  refine WL.val (Val.pick rfl) rfl ?_
  refine WL.val (Val.assignB rfl) rfl ?_
  refine WL.nil ?_
  refine WX.thenC ?_
  refine WC.ret ?_
  rotate_left
  refine WL.val (Val.moveB rfl) rfl ?_
  refine WL.gF rfl rfl rfl rfl ?_
  refine WL.gF rfl rfl rfl rfl ?_
  refine WL.val (Val.pick rfl) rfl ?_
  refine WL.val (Val.assignB rfl) rfl ?_
  refine WL.nil ?_
  refine WX.thenC ?_
  refine WC.ret ?_
  rotate_left
  all_goals
    apply WX.doneP (ks := [])
    case hres => exact RunRes.r1 rfl (ResIs.tmpB rfl)
    case hI => first | exact Mem.le.refl _ | assumption
  all_goals refine ⟨rfl, rfl, ?_⟩
  all_goals unfold Room
  all_goals first | exact EqP.t (by omega) | exact EqP.f (by omega)
theorem inn_ctr (p : Pt) (I : Mem) : Ctr Tryz.prog 60 [.agg p.cs.toArray] I [] (Still I (EqP p.inn)) := by
  refine Ctr.intro Tryz.func60 rfl rfl rfl fun E F => ?_
  refine WC.seq ?_
  refine WC.region ?_
  (refine WL.boxA rfl rfl ?_; intro _)
  refine WL.nApp ?_
  refine WL.val (Val.assignB rfl) rfl ?_
  refine WL.nil ?_
  refine WX.thenC ?_
  refine WC.seq ?_
  refine WC.region ?_
  refine WL.val (Val.fldAddr rfl) rfl ?_
  refine WL.val (Val.loadS rfl (Rd.own1 1 rfl rfl)) rfl ?_
  refine WL.callE rfl rfl (room_ctr p.x _) rfl (fun h => ?_) (fun h => ?_)
  · skip
    refine WL.val (Val.moveB rfl) rfl ?_
    refine WL.gT rfl rfl ?_
    refine WL.val (Val.fldAddr rfl) rfl ?_
    refine WL.gT rfl rfl ?_
    refine WL.val (Val.loadS rfl (Rd.own1 1 rfl rfl)) rfl ?_
    refine WL.gT rfl rfl ?_
    refine WL.callE rfl rfl (room_ctr p.y _) rfl (fun h2 => ?_) (fun h2 => ?_)
    · skip
      refine WL.val (Val.pick rfl) rfl ?_
      refine WL.val (Val.assignB rfl) rfl ?_
      refine WL.nil ?_
      refine WX.thenC ?_
      refine WC.ret ?_
      apply WX.doneP (ks := [])
      case hres => exact RunRes.r1 rfl (ResIs.tmpB rfl)
      case hI => first | exact Mem.le.refl _ | assumption
      exact ⟨rfl, rfl, EqP.t ⟨h, h2⟩⟩
    · skip
      refine WL.val (Val.pick rfl) rfl ?_
      refine WL.val (Val.assignB rfl) rfl ?_
      refine WL.nil ?_
      refine WX.thenC ?_
      refine WC.ret ?_
      apply WX.doneP (ks := [])
      case hres => exact RunRes.r1 rfl (ResIs.tmpB rfl)
      case hI => first | exact Mem.le.refl _ | assumption
      exact ⟨rfl, rfl, EqP.f fun e => h2 e.2⟩
  · skip
    refine WL.val (Val.moveB rfl) rfl ?_
    refine WL.gF rfl rfl rfl rfl ?_
    refine WL.gF rfl rfl rfl rfl ?_
    refine WL.gF rfl rfl rfl rfl ?_
    refine WL.val (Val.pick rfl) rfl ?_
    refine WL.val (Val.assignB rfl) rfl ?_
    refine WL.nil ?_
    refine WX.thenC ?_
    refine WC.ret ?_
    apply WX.doneP (ks := [])
    case hres => exact RunRes.r1 rfl (ResIs.tmpB rfl)
    case hI => first | exact Mem.le.refl _ | assumption
    exact ⟨rfl, rfl, EqP.f fun e => h e.1⟩
theorem colRight_ctr (c : Col) (I : Mem) : Ctr Tryz.prog 93 [.agg c.cs.toArray] I [] (Still I (EqP c.right)) := by
  refine Ctr.intro Tryz.func93 rfl rfl rfl fun E F => ?_
  refine WC.seq ?_
  refine WC.region ?_
  (refine WL.boxA rfl rfl ?_; intro _)
  refine WL.nApp ?_
  refine WL.val (Val.assignB rfl) rfl ?_
  refine WL.nil ?_
  refine WX.thenC ?_
  refine WC.seq ?_
  refine WC.region ?_
  refine WL.val (Val.indexAddrA rfl rfl (by omega) (by omega)) rfl ?_
  refine WL.val (Val.loadS rfl (Rd.own1 1 rfl rfl)) rfl ?_
  refine WL.val (Val.indexAddrA rfl rfl (by omega) (by omega)) rfl ?_
  refine WL.val (Val.loadS rfl (Rd.own1 1 rfl rfl)) rfl ?_
  refine WL.val (Val.indexAddrA rfl rfl (by omega) (by omega)) rfl ?_
  refine WL.val (Val.loadS rfl (Rd.own1 1 rfl rfl)) rfl ?_
  refine WL.val (Val.max3 rfl rfl rfl) rfl ?_
  refine WL.val (Val.indexAddrA rfl rfl (by omega) (by omega)) rfl ?_
  refine WL.val (Val.loadS rfl (Rd.own1 1 rfl rfl)) rfl ?_
  refine WL.leI rfl rfl rfl (fun h => ?_) (fun h => ?_)
  refine WL.val (Val.assignB rfl) rfl ?_
  refine WL.nil ?_
  refine WX.thenC ?_
  refine WC.ret ?_
  rotate_left
  refine WL.val (Val.assignB rfl) rfl ?_
  refine WL.nil ?_
  refine WX.thenC ?_
  refine WC.ret ?_
  rotate_left
  all_goals
    apply WX.doneP (ks := [])
    case hres => exact RunRes.r1 rfl (ResIs.tmpB rfl)
    case hI => first | exact Mem.le.refl _ | assumption
  all_goals refine ⟨rfl, rfl, ?_⟩
  all_goals unfold Col.right
  all_goals first | exact EqP.t (by omega) | exact EqP.f (by omega)
theorem near_ctr (p : Pt) (I : Mem) : Ctr Tryz.prog 94 [.agg p.cs.toArray] I [] (Still I (EqP p.near)) := by
  refine Ctr.intro Tryz.func94 rfl rfl rfl fun E F => ?_
  refine WC.seq ?_
  refine WC.region ?_
  (refine WL.boxA rfl rfl ?_; intro _)
  refine WL.nApp ?_
  refine WL.val (Val.assignB rfl) rfl ?_
  refine WL.nil ?_
  refine WX.thenC ?_
  refine WC.seq ?_
  refine WC.region ?_
  refine WL.val (Val.fldAddr rfl) rfl ?_
  refine WL.val (Val.loadS rfl (Rd.own1 1 rfl rfl)) rfl ?_
  refine WL.val (Val.fldAddr rfl) rfl ?_
  refine WL.val (Val.loadS rfl (Rd.own1 1 rfl rfl)) rfl ?_
  refine WL.val (Val.minI rfl rfl) rfl ?_
  by_cases h1 : -16777216 ≤ min p.x p.y
  · skip
    refine WL.val (Val.geq rfl rfl (decide_eq_true (by omega))) rfl ?_
    refine WL.val (Val.moveB rfl) rfl ?_
    refine WL.gT rfl rfl ?_
    refine WL.val (Val.fldAddr rfl) rfl ?_
    refine WL.gT rfl rfl ?_
    refine WL.val (Val.loadS rfl (Rd.own1 1 rfl rfl)) rfl ?_
    refine WL.gT rfl rfl ?_
    refine WL.val (Val.fldAddr rfl) rfl ?_
    refine WL.gT rfl rfl ?_
    refine WL.val (Val.loadS rfl (Rd.own1 1 rfl rfl)) rfl ?_
    refine WL.gT rfl rfl ?_
    refine WL.val (Val.maxI rfl rfl) rfl ?_
    refine WL.gT rfl rfl ?_
    refine WL.leI rfl rfl rfl (fun h => ?_) (fun h => ?_)
    refine WL.val (Val.pick rfl) rfl ?_
    refine WL.val (Val.assignB rfl) rfl ?_
    refine WL.nil ?_
    refine WX.thenC ?_
    refine WC.ret ?_
    rotate_left
    refine WL.val (Val.pick rfl) rfl ?_
    refine WL.val (Val.assignB rfl) rfl ?_
    refine WL.nil ?_
    refine WX.thenC ?_
    refine WC.ret ?_
    rotate_left
    all_goals
      apply WX.doneP (ks := [])
      case hres => exact RunRes.r1 rfl (ResIs.tmpB rfl)
      case hI => first | exact Mem.le.refl _ | assumption
    all_goals refine ⟨rfl, rfl, ?_⟩
    all_goals unfold Pt.near
    all_goals first | exact EqP.t (by omega) | exact EqP.f (by omega)
  · skip
    refine WL.val (Val.geq rfl rfl (decide_eq_false (by omega))) rfl ?_
    refine WL.val (Val.moveB rfl) rfl ?_
    refine WL.gF rfl rfl rfl rfl ?_
    refine WL.gF rfl rfl rfl rfl ?_
    refine WL.gF rfl rfl rfl rfl ?_
    refine WL.gF rfl rfl rfl rfl ?_
    refine WL.gF rfl rfl rfl rfl ?_
    refine WL.gF rfl rfl rfl rfl ?_
    refine WL.val (Val.pick rfl) rfl ?_
    refine WL.val (Val.assignB rfl) rfl ?_
    refine WL.nil ?_
    refine WX.thenC ?_
    refine WC.ret ?_
    apply WX.doneP (ks := [])
    case hres => exact RunRes.r1 rfl (ResIs.tmpB rfl)
    case hI => first | exact Mem.le.refl _ | assumption
    refine ⟨rfl, rfl, EqP.f ?_⟩
    unfold Pt.near
    omega
theorem mtxRight_ctr (m : Mtx) (I : Mem) : Ctr Tryz.prog 16 [.agg m.cs.toArray] I [] (Still I (EqP m.right)) := by
  refine Ctr.intro Tryz.func16 rfl rfl rfl fun E F => ?_
  refine WC.seq ?_
  refine WC.region ?_
  (refine WL.boxA rfl rfl ?_; intro _)
  refine WL.nApp ?_
  refine WL.val (Val.assignB rfl) rfl ?_
  refine WL.nil ?_
  refine WX.thenC ?_
  refine WC.seq ?_
  refine WC.seq ?_
  refine WC.region ?_
  refine WL.val (Val.fldAddr rfl) rfl ?_
  refine WL.val (Val.loadS rfl (Rd.own1 1 rfl rfl)) rfl ?_
  refine WL.val (Val.fldAddr rfl) rfl ?_
  refine WL.val (Val.loadS rfl (Rd.own1 1 rfl rfl)) rfl ?_
  refine WL.val (Val.fldAddr rfl) rfl ?_
  refine WL.val (Val.loadS rfl (Rd.own1 1 rfl rfl)) rfl ?_
  refine WL.val (Val.fldAddr rfl) rfl ?_
  refine WL.val (Val.loadS rfl (Rd.own1 1 rfl rfl)) rfl ?_
  refine WL.val (Val.build (cs := [vi m.a, vi m.b, vi m.c, vi m.d]) rfl) rfl ?_
  refine WL.val (Val.moveI rfl) rfl ?_
  refine WL.nil ?_
  refine WX.thenC ?_
  refine WC.block ?_
  rename_i g
  refine WC.loop (fun n ρ' I' L' => ∃ k : Nat, n = 4 - k ∧ k ≤ 4 ∧ I' = I ∧ ρ' 1 = ptr g ∧ ρ' 13 = .agg #[vi m.a, vi m.b, vi m.c, vi m.d] ∧ ρ' 14 = vi k ∧ L' = [F, box g 23 m.cs] ∧ (0 < k → Ety m.a) ∧ (1 < k → Ety m.b) ∧ (2 < k → Ety m.c) ∧ (3 < k → Ety m.d))
    4 ⟨0, rfl, by omega, rfl, rfl, rfl, rfl, rfl, fun h => by omega, fun h => by omega, fun h => by omega, fun h => by omega⟩ ?_
  rintro n ρ' I0 L' ⟨k, rfl, hk4, rfl, h1, h13, h14, rfl, q0, q1, q2, q3⟩
  rw [← upd_self h14, ← upd_self h13, ← upd_self h1]
  clear h14 h13 h1
  have hcase : k = 0 ∨ k = 1 ∨ k = 2 ∨ k = 3 ∨ k = 4 := by omega
  rcases hcase with rfl | rfl | rfl | rfl | rfl
  · skip
    refine WC.seq ?_
    refine WC.region ?_
    refine WL.val (Val.lss rfl rfl (decide_eq_true (by omega))) rfl ?_
    refine WL.nil ?_
    refine WX.thenC ?_
    refine WC.seq ?_
    refine WC.condT rfl ?_
    refine WC.skip ?_
    refine WX.thenC ?_
    refine WC.seq ?_
    refine WC.block ?_
    refine WC.seq ?_
    refine WC.region ?_
    refine WL.val (Val.index1 (v := vi m.a) rfl rfl (by decide) (by decide) rfl) rfl ?_
    by_cases hq : Ety m.a
    · have hq' : -16777216 ≤ m.a ∧ m.a ≤ 16777216 := hq
      refine WL.val (Val.assignI rfl) rfl ?_
      refine WL.nil ?_
      refine WX.thenC ?_
      refine WC.seq ?_
      refine WC.region ?_
      refine WL.val (Val.moveI rfl) rfl ?_
      refine WL.val (Val.lss rfl rfl (decide_eq_false (by omega))) rfl ?_
      refine WL.val (Val.moveB rfl) rfl ?_
      refine WL.gT rfl rfl ?_
      refine WL.val (Val.moveI rfl) rfl ?_
      refine WL.gT rfl rfl ?_
      refine WL.val (Val.gtr rfl rfl (decide_eq_false (by omega))) rfl ?_
      refine WL.val (Val.pick rfl) rfl ?_
      refine WL.nil ?_
      refine WX.thenC ?_
      refine WC.condF rfl ?_
      refine WC.skip ?_
      refine WX.inNormal ?_
      refine WX.thenC ?_
      refine WC.region ?_
      refine WL.val (Val.add rfl rfl (wrap_i64 (by omega) (by omega))) rfl ?_
      refine WL.val (Val.moveI rfl) rfl ?_
      refine WL.nil ?_
      exact WX.thenK (WK.round 3 (by omega) ⟨1, rfl, by omega, rfl, rfl, rfl, rfl, rfl, fun h => hq, fun h => by omega, fun h => by omega, fun h => by omega⟩)
    · have hq' : ¬ (-16777216 ≤ m.a ∧ m.a ≤ 16777216) := hq
      refine WL.val (Val.assignI rfl) rfl ?_
      refine WL.nil ?_
      refine WX.thenC ?_
      refine WC.seq ?_
      refine WC.region ?_
      refine WL.val (Val.moveI rfl) rfl ?_
      refine WL.ltI rfl rfl rfl (fun h => ?_) (fun h => ?_)
      refine WL.val (Val.moveB rfl) rfl ?_
      refine WL.gF rfl rfl rfl rfl ?_
      refine WL.gF rfl rfl rfl rfl ?_
      refine WL.val (Val.pick rfl) rfl ?_
      refine WL.nil ?_
      refine WX.thenC ?_
      refine WC.condT rfl ?_
      refine WC.seq ?_
      refine WC.region ?_
      refine WL.val (Val.assignB rfl) rfl ?_
      refine WL.nil ?_
      refine WX.thenC ?_
      refine WC.ret ?_
      refine WX.inRet ?_
      refine WX.thenRet ?_
      refine WX.thenRet ?_
      refine WX.inRet ?_
      refine WX.thenRet ?_
      rotate_left
      refine WL.val (Val.moveB rfl) rfl ?_
      refine WL.gT rfl rfl ?_
      refine WL.val (Val.moveI rfl) rfl ?_
      refine WL.gT rfl rfl ?_
      refine WL.val (Val.gtr rfl rfl (decide_eq_true (by omega))) rfl ?_
      refine WL.val (Val.pick rfl) rfl ?_
      refine WL.nil ?_
      refine WX.thenC ?_
      refine WC.condT rfl ?_
      refine WC.seq ?_
      refine WC.region ?_
      refine WL.val (Val.assignB rfl) rfl ?_
      refine WL.nil ?_
      refine WX.thenC ?_
      refine WC.ret ?_
      refine WX.inRet ?_
      refine WX.thenRet ?_
      refine WX.thenRet ?_
      refine WX.inRet ?_
      refine WX.thenRet ?_
      rotate_left
      all_goals
        apply WX.doneP (ks := [])
        case hres => exact RunRes.r1 rfl (ResIs.tmpB rfl)
        case hI => first | exact Mem.le.refl _ | assumption
      all_goals exact ⟨rfl, rfl, EqP.f fun e => hq e.1.1⟩
  · skip
    refine WC.seq ?_
    refine WC.region ?_
    refine WL.val (Val.lss rfl rfl (decide_eq_true (by omega))) rfl ?_
    refine WL.nil ?_
    refine WX.thenC ?_
    refine WC.seq ?_
    refine WC.condT rfl ?_
    refine WC.skip ?_
    refine WX.thenC ?_
    refine WC.seq ?_
    refine WC.block ?_
    refine WC.seq ?_
    refine WC.region ?_
    refine WL.val (Val.index1 (v := vi m.b) rfl rfl (by decide) (by decide) rfl) rfl ?_
    by_cases hq : Ety m.b
    · have hq' : -16777216 ≤ m.b ∧ m.b ≤ 16777216 := hq
      refine WL.val (Val.assignI rfl) rfl ?_
      refine WL.nil ?_
      refine WX.thenC ?_
      refine WC.seq ?_
      refine WC.region ?_
      refine WL.val (Val.moveI rfl) rfl ?_
      refine WL.val (Val.lss rfl rfl (decide_eq_false (by omega))) rfl ?_
      refine WL.val (Val.moveB rfl) rfl ?_
      refine WL.gT rfl rfl ?_
      refine WL.val (Val.moveI rfl) rfl ?_
      refine WL.gT rfl rfl ?_
      refine WL.val (Val.gtr rfl rfl (decide_eq_false (by omega))) rfl ?_
      refine WL.val (Val.pick rfl) rfl ?_
      refine WL.nil ?_
      refine WX.thenC ?_
      refine WC.condF rfl ?_
      refine WC.skip ?_
      refine WX.inNormal ?_
      refine WX.thenC ?_
      refine WC.region ?_
      refine WL.val (Val.add rfl rfl (wrap_i64 (by omega) (by omega))) rfl ?_
      refine WL.val (Val.moveI rfl) rfl ?_
      refine WL.nil ?_
      exact WX.thenK (WK.round 2 (by omega) ⟨2, rfl, by omega, rfl, rfl, rfl, rfl, rfl, fun h => q0 (by omega), fun h => hq, fun h => by omega, fun h => by omega⟩)
    · have hq' : ¬ (-16777216 ≤ m.b ∧ m.b ≤ 16777216) := hq
      refine WL.val (Val.assignI rfl) rfl ?_
      refine WL.nil ?_
      refine WX.thenC ?_
      refine WC.seq ?_
      refine WC.region ?_
      refine WL.val (Val.moveI rfl) rfl ?_
      refine WL.ltI rfl rfl rfl (fun h => ?_) (fun h => ?_)
      refine WL.val (Val.moveB rfl) rfl ?_
      refine WL.gF rfl rfl rfl rfl ?_
      refine WL.gF rfl rfl rfl rfl ?_
      refine WL.val (Val.pick rfl) rfl ?_
      refine WL.nil ?_
      refine WX.thenC ?_
      refine WC.condT rfl ?_
      refine WC.seq ?_
      refine WC.region ?_
      refine WL.val (Val.assignB rfl) rfl ?_
      refine WL.nil ?_
      refine WX.thenC ?_
      refine WC.ret ?_
      refine WX.inRet ?_
      refine WX.thenRet ?_
      refine WX.thenRet ?_
      refine WX.inRet ?_
      refine WX.thenRet ?_
      rotate_left
      refine WL.val (Val.moveB rfl) rfl ?_
      refine WL.gT rfl rfl ?_
      refine WL.val (Val.moveI rfl) rfl ?_
      refine WL.gT rfl rfl ?_
      refine WL.val (Val.gtr rfl rfl (decide_eq_true (by omega))) rfl ?_
      refine WL.val (Val.pick rfl) rfl ?_
      refine WL.nil ?_
      refine WX.thenC ?_
      refine WC.condT rfl ?_
      refine WC.seq ?_
      refine WC.region ?_
      refine WL.val (Val.assignB rfl) rfl ?_
      refine WL.nil ?_
      refine WX.thenC ?_
      refine WC.ret ?_
      refine WX.inRet ?_
      refine WX.thenRet ?_
      refine WX.thenRet ?_
      refine WX.inRet ?_
      refine WX.thenRet ?_
      rotate_left
      all_goals
        apply WX.doneP (ks := [])
        case hres => exact RunRes.r1 rfl (ResIs.tmpB rfl)
        case hI => first | exact Mem.le.refl _ | assumption
      all_goals exact ⟨rfl, rfl, EqP.f fun e => hq e.1.2.1⟩
  · skip
    refine WC.seq ?_
    refine WC.region ?_
    refine WL.val (Val.lss rfl rfl (decide_eq_true (by omega))) rfl ?_
    refine WL.nil ?_
    refine WX.thenC ?_
    refine WC.seq ?_
    refine WC.condT rfl ?_
    refine WC.skip ?_
    refine WX.thenC ?_
    refine WC.seq ?_
    refine WC.block ?_
    refine WC.seq ?_
    refine WC.region ?_
    refine WL.val (Val.index1 (v := vi m.c) rfl rfl (by decide) (by decide) rfl) rfl ?_
    by_cases hq : Ety m.c
    · have hq' : -16777216 ≤ m.c ∧ m.c ≤ 16777216 := hq
      refine WL.val (Val.assignI rfl) rfl ?_
      refine WL.nil ?_
      refine WX.thenC ?_
      refine WC.seq ?_
      refine WC.region ?_
      refine WL.val (Val.moveI rfl) rfl ?_
      refine WL.val (Val.lss rfl rfl (decide_eq_false (by omega))) rfl ?_
      refine WL.val (Val.moveB rfl) rfl ?_
      refine WL.gT rfl rfl ?_
      refine WL.val (Val.moveI rfl) rfl ?_
      refine WL.gT rfl rfl ?_
      refine WL.val (Val.gtr rfl rfl (decide_eq_false (by omega))) rfl ?_
      refine WL.val (Val.pick rfl) rfl ?_
      refine WL.nil ?_
      refine WX.thenC ?_
      refine WC.condF rfl ?_
      refine WC.skip ?_
      refine WX.inNormal ?_
      refine WX.thenC ?_
      refine WC.region ?_
      refine WL.val (Val.add rfl rfl (wrap_i64 (by omega) (by omega))) rfl ?_
      refine WL.val (Val.moveI rfl) rfl ?_
      refine WL.nil ?_
      exact WX.thenK (WK.round 1 (by omega) ⟨3, rfl, by omega, rfl, rfl, rfl, rfl, rfl, fun h => q0 (by omega), fun h => q1 (by omega), fun h => hq, fun h => by omega⟩)
    · have hq' : ¬ (-16777216 ≤ m.c ∧ m.c ≤ 16777216) := hq
      refine WL.val (Val.assignI rfl) rfl ?_
      refine WL.nil ?_
      refine WX.thenC ?_
      refine WC.seq ?_
      refine WC.region ?_
      refine WL.val (Val.moveI rfl) rfl ?_
      refine WL.ltI rfl rfl rfl (fun h => ?_) (fun h => ?_)
      refine WL.val (Val.moveB rfl) rfl ?_
      refine WL.gF rfl rfl rfl rfl ?_
      refine WL.gF rfl rfl rfl rfl ?_
      refine WL.val (Val.pick rfl) rfl ?_
      refine WL.nil ?_
      refine WX.thenC ?_
      refine WC.condT rfl ?_
      refine WC.seq ?_
      refine WC.region ?_
      refine WL.val (Val.assignB rfl) rfl ?_
      refine WL.nil ?_
      refine WX.thenC ?_
      refine WC.ret ?_
      refine WX.inRet ?_
      refine WX.thenRet ?_
      refine WX.thenRet ?_
      refine WX.inRet ?_
      refine WX.thenRet ?_
      rotate_left
      refine WL.val (Val.moveB rfl) rfl ?_
      refine WL.gT rfl rfl ?_
      refine WL.val (Val.moveI rfl) rfl ?_
      refine WL.gT rfl rfl ?_
      refine WL.val (Val.gtr rfl rfl (decide_eq_true (by omega))) rfl ?_
      refine WL.val (Val.pick rfl) rfl ?_
      refine WL.nil ?_
      refine WX.thenC ?_
      refine WC.condT rfl ?_
      refine WC.seq ?_
      refine WC.region ?_
      refine WL.val (Val.assignB rfl) rfl ?_
      refine WL.nil ?_
      refine WX.thenC ?_
      refine WC.ret ?_
      refine WX.inRet ?_
      refine WX.thenRet ?_
      refine WX.thenRet ?_
      refine WX.inRet ?_
      refine WX.thenRet ?_
      rotate_left
      all_goals
        apply WX.doneP (ks := [])
        case hres => exact RunRes.r1 rfl (ResIs.tmpB rfl)
        case hI => first | exact Mem.le.refl _ | assumption
      all_goals exact ⟨rfl, rfl, EqP.f fun e => hq e.1.2.2.1⟩
  · skip
    refine WC.seq ?_
    refine WC.region ?_
    refine WL.val (Val.lss rfl rfl (decide_eq_true (by omega))) rfl ?_
    refine WL.nil ?_
    refine WX.thenC ?_
    refine WC.seq ?_
    refine WC.condT rfl ?_
    refine WC.skip ?_
    refine WX.thenC ?_
    refine WC.seq ?_
    refine WC.block ?_
    refine WC.seq ?_
    refine WC.region ?_
    refine WL.val (Val.index1 (v := vi m.d) rfl rfl (by decide) (by decide) rfl) rfl ?_
    by_cases hq : Ety m.d
    · have hq' : -16777216 ≤ m.d ∧ m.d ≤ 16777216 := hq
      refine WL.val (Val.assignI rfl) rfl ?_
      refine WL.nil ?_
      refine WX.thenC ?_
      refine WC.seq ?_
      refine WC.region ?_
      refine WL.val (Val.moveI rfl) rfl ?_
      refine WL.val (Val.lss rfl rfl (decide_eq_false (by omega))) rfl ?_
      refine WL.val (Val.moveB rfl) rfl ?_
      refine WL.gT rfl rfl ?_
      refine WL.val (Val.moveI rfl) rfl ?_
      refine WL.gT rfl rfl ?_
      refine WL.val (Val.gtr rfl rfl (decide_eq_false (by omega))) rfl ?_
      refine WL.val (Val.pick rfl) rfl ?_
      refine WL.nil ?_
      refine WX.thenC ?_
      refine WC.condF rfl ?_
      refine WC.skip ?_
      refine WX.inNormal ?_
      refine WX.thenC ?_
      refine WC.region ?_
      refine WL.val (Val.add rfl rfl (wrap_i64 (by omega) (by omega))) rfl ?_
      refine WL.val (Val.moveI rfl) rfl ?_
      refine WL.nil ?_
      exact WX.thenK (WK.round 0 (by omega) ⟨4, rfl, by omega, rfl, rfl, rfl, rfl, rfl, fun h => q0 (by omega), fun h => q1 (by omega), fun h => q2 (by omega), fun h => hq⟩)
    · have hq' : ¬ (-16777216 ≤ m.d ∧ m.d ≤ 16777216) := hq
      refine WL.val (Val.assignI rfl) rfl ?_
      refine WL.nil ?_
      refine WX.thenC ?_
      refine WC.seq ?_
      refine WC.region ?_
      refine WL.val (Val.moveI rfl) rfl ?_
      refine WL.ltI rfl rfl rfl (fun h => ?_) (fun h => ?_)
      refine WL.val (Val.moveB rfl) rfl ?_
      refine WL.gF rfl rfl rfl rfl ?_
      refine WL.gF rfl rfl rfl rfl ?_
      refine WL.val (Val.pick rfl) rfl ?_
      refine WL.nil ?_
      refine WX.thenC ?_
      refine WC.condT rfl ?_
      refine WC.seq ?_
      refine WC.region ?_
      refine WL.val (Val.assignB rfl) rfl ?_
      refine WL.nil ?_
      refine WX.thenC ?_
      refine WC.ret ?_
      refine WX.inRet ?_
      refine WX.thenRet ?_
      refine WX.thenRet ?_
      refine WX.inRet ?_
      refine WX.thenRet ?_
      rotate_left
      refine WL.val (Val.moveB rfl) rfl ?_
      refine WL.gT rfl rfl ?_
      refine WL.val (Val.moveI rfl) rfl ?_
      refine WL.gT rfl rfl ?_
      refine WL.val (Val.gtr rfl rfl (decide_eq_true (by omega))) rfl ?_
      refine WL.val (Val.pick rfl) rfl ?_
      refine WL.nil ?_
      refine WX.thenC ?_
      refine WC.condT rfl ?_
      refine WC.seq ?_
      refine WC.region ?_
      refine WL.val (Val.assignB rfl) rfl ?_
      refine WL.nil ?_
      refine WX.thenC ?_
      refine WC.ret ?_
      refine WX.inRet ?_
      refine WX.thenRet ?_
      refine WX.thenRet ?_
      refine WX.inRet ?_
      refine WX.thenRet ?_
      rotate_left
      all_goals
        apply WX.doneP (ks := [])
        case hres => exact RunRes.r1 rfl (ResIs.tmpB rfl)
        case hI => first | exact Mem.le.refl _ | assumption
      all_goals exact ⟨rfl, rfl, EqP.f fun e => hq e.1.2.2.2⟩
  · have q := And.intro (q0 (by omega)) (And.intro (q1 (by omega)) (And.intro (q2 (by omega)) (q3 (by omega))))
    refine WC.seq ?_
    refine WC.region ?_
    refine WL.val (Val.lss rfl rfl (decide_eq_false (by omega))) rfl ?_
    refine WL.nil ?_
    refine WX.thenC ?_
    refine WC.seq ?_
    refine WC.condF rfl ?_
    refine WC.exit ?_
    refine WX.thenExit ?_
    refine WX.thenExit ?_
    refine WX.inHit ?_
    refine WX.thenC ?_
    refine WC.seq ?_
    refine WC.region ?_
    refine WL.val (Val.fldAddr rfl) rfl ?_
    refine WL.val (Val.loadS rfl (Rd.own1 1 rfl rfl)) rfl ?_
    refine WL.callE rfl rfl (room_ctr m.e _) rfl (fun h => ?_) (fun h => ?_)
    · skip
      refine WL.val (Val.moveB rfl) rfl ?_
      refine WL.gT rfl rfl ?_
      refine WL.val (Val.fldAddr rfl) rfl ?_
      refine WL.gT rfl rfl ?_
      refine WL.val (Val.loadS rfl (Rd.own1 1 rfl rfl)) rfl ?_
      refine WL.gT rfl rfl ?_
      refine WL.callE rfl rfl (room_ctr m.f _) rfl (fun h2 => ?_) (fun h2 => ?_)
      · skip
        refine WL.val (Val.pick rfl) rfl ?_
        refine WL.val (Val.assignB rfl) rfl ?_
        refine WL.nil ?_
        refine WX.thenC ?_
        refine WC.ret ?_
        apply WX.doneP (ks := [])
        case hres => exact RunRes.r1 rfl (ResIs.tmpB rfl)
        case hI => first | exact Mem.le.refl _ | assumption
        exact ⟨rfl, rfl, EqP.t ⟨q, h, h2⟩⟩
      · skip
        refine WL.val (Val.pick rfl) rfl ?_
        refine WL.val (Val.assignB rfl) rfl ?_
        refine WL.nil ?_
        refine WX.thenC ?_
        refine WC.ret ?_
        apply WX.doneP (ks := [])
        case hres => exact RunRes.r1 rfl (ResIs.tmpB rfl)
        case hI => first | exact Mem.le.refl _ | assumption
        exact ⟨rfl, rfl, EqP.f fun e => h2 e.2.2⟩
    · skip
      refine WL.val (Val.moveB rfl) rfl ?_
      refine WL.gF rfl rfl rfl rfl ?_
      refine WL.gF rfl rfl rfl rfl ?_
      refine WL.gF rfl rfl rfl rfl ?_
      refine WL.val (Val.pick rfl) rfl ?_
      refine WL.val (Val.assignB rfl) rfl ?_
      refine WL.nil ?_
      refine WX.thenC ?_
      refine WC.ret ?_
      apply WX.doneP (ks := [])
      case hres => exact RunRes.r1 rfl (ResIs.tmpB rfl)
      case hI => first | exact Mem.le.refl _ | assumption
      exact ⟨rfl, rfl, EqP.f fun e => h e.2.1⟩
end Go.Proofs.YtggcpoleklcmkaaGreatDoor
