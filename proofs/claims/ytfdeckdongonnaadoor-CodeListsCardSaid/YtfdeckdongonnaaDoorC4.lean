/-
  Code, the walks: lists that are read.
-/
import Derived.Test.YtfdeckdongonnaaDoorC3
namespace Go.Proofs.YtfdeckdongonnaaDoor
open Go.Sl Go.Cd
set_option maxRecDepth 100000
set_option maxHeartbeats 4000000
set_option linter.unusedVariables false
attribute [local irreducible] WC WL WX WK WA WAK Val Ctr RunRes ResIs Rd At sl box pt Exit.then Exit.inBlock bodyPost Code.wp wpList
abbrev hd (vs : List Value) : Value := vs.headD undef
/-- What is read of a list. -/
def RdL {α : Type} (R : Rep α) (w : α → Bs) (ok : α → Prop) (most : Int) (c b : Nat) (s : Option Bs) : Value → Mem → List HP → Prop := fun v I' L' =>
  ∃ l sv' b2' b1' bs', LsAt R I' l v ∧ L' = inL c b sv' b2' b1' ∧ Byt I' sv' bs' ∧ Reads (lw w) (fun l => (l.length : Int) ≤ most ∧ ∀ x ∈ l, ok x) s l (st b1' b2' bs')
theorem listStp (f : Nat) [FnK Tryd.prog f] (a : Value) (c b : Nat) (w : Stp → Bs) (ok : Stp → Prop)
    (hel : ∀ sv b2 b1 bs I, NeedAt I → Byt I sv bs → Ctr Tryd.prog f [a] I (inL c b sv b2 b1) (RdP agg Stp.rep w ok c b (st b1 b2 bs)))
    (most : Int) (hm0 : 0 ≤ most) (hm1 : most ≤ 65536) (sv : Value) (b2 b1 : Bool) (bs : Bs) (I : Mem) (hN : NeedAt I) (hb : Byt I sv bs) :
    Ctr Tryd.prog 91 [ptr c, vi most, .func (.func f) #[a] #[]] I (inL c b sv b2 b1) (RdL Stp.rep w ok most c b (st b1 b2 bs)) := by
  refine Ctr.intro Tryd.func91 rfl rfl rfl fun E F => ?_
  refine WC.slNil 142 5 ?_
  refine WC.seq ?_
  refine WC.region ?_
  refine WL.nApp ?_
  refine WL.val (Val.assignS rfl) rfl ?_
  refine WL.nil ?_
  refine WX.thenC ?_
  refine WC.seq ?_
  refine WC.region ?_
  refine WL.val (Val.assignS rfl) rfl ?_
  refine WL.nil ?_
  refine WX.thenC ?_
  refine WC.seq ?_
  refine WC.seq ?_
  refine WC.region ?_
  refine WL.val (Val.moveP rfl) rfl ?_
  refine WL.val (Val.nilCheckP rfl) rfl ?_
  refine WL.val (Val.fldAddr rfl) rfl ?_
  refine WL.val (Val.loadS rfl (Rd.own1 1 rfl rfl)) rfl ?_
  refine WL.val (Val.moveI rfl) rfl ?_
  refine WL.callP [2] rfl rfl (inCount b sv b1 bs most I hb hm0) rfl ?_
  rintro _ I0 _ - ⟨rfl, n, sv1, c1, bs1, rfl, hn, rfl, hB1, hR1⟩
  refine WL.nApp ?_
  refine WL.val (Val.moveI rfl) rfl ?_
  refine WL.nil ?_
  refine WX.thenC ?_
  refine WC.block ?_
  refine WC.conv (fun w h => h.sub [0, 1, 0, 0] rfl) ?_
  refine WC.loop (fun m ρ' I' L' => ∃ k : Nat, ∃ l css v sv' d2 d1 bs', m = n.toNat - k ∧ (k : Int) ≤ n ∧ I0.le I' ∧ ρ' 0 = ptr c ∧ ρ' 2 = .func (.func f) #[a] #[] ∧ ρ' 7 = v ∧ ρ' 13 = vi n ∧ ρ' 14 = vi k
      ∧ L' = F :: sl 142 5 v k css.flatten :: inL c b sv' d2 d1 ∧ l.length = k ∧ All2 (Stp.rep I') l css ∧ Byt I' sv' bs'
      ∧ Reads (fun l : List Stp => (l.map w).flatten) (fun l => l.length = k ∧ ∀ x ∈ l, ok x) (st c1 b2 bs1) l (st d1 d2 bs'))
    n.toNat ⟨0, [], [], _, sv1, b2, c1, bs1, rfl, hn.1, Mem.le.refl _, rfl, rfl, rfl, rfl, rfl, rfl, rfl, trivial, hB1, Reads.start⟩ ?_
  rintro m ρ' I' L' ⟨k, l, css, v, sv', d2, d1, bs', rfl, hk, hI0, h0, h2, h7, h13, h14, rfl, hl, hA, hB, hR⟩
  rw [← upd_self h14, ← upd_self h13, ← upd_self h7, ← upd_self h2, ← upd_self h0]
  clear h14 h13 h7 h2 h0
  have hN' := hN.mono hI0
  have hfin : ∀ d1 d2 bs', (k = n.toNat ∨ st d1 d2 bs' = none) → Reads (fun l : List Stp => (l.map w).flatten) (fun l => l.length = k ∧ ∀ x ∈ l, ok x) (st c1 b2 bs1) l (st d1 d2 bs') →
      Reads (lw w) (fun l => (l.length : Int) ≤ most ∧ ∀ x ∈ l, ok x) (st b1 b2 bs) l (st d1 d2 bs') := by
    intro d1 d2 bs' h hR
    refine (hR1.lift b2).list ?_ (by omega)
    rcases h with rfl | h
    · exact hR
    · rw [h] at hR ⊢
      exact hR.cutoff (by omega)
  by_cases hkn : (k : Int) < n
  · skip
    refine WC.seq ?_
    refine WC.region ?_
    refine WL.val (Val.lss rfl rfl (decide_eq_true (by omega))) rfl ?_
    refine WL.nil ?_
    refine WX.thenC ?_
    refine WC.seq ?_
    refine WC.condT rfl ?_
    refine WC.skip ?_
    refine WX.thenC ?_
    refine WC.seq ?_
    refine WC.block ?_
    refine WC.seq ?_
    refine WC.seq ?_
    refine WC.region ?_
    refine WL.val (Val.moveP rfl) rfl ?_
    refine WL.callP [2, 2] rfl rfl (over_ctr c b sv' d2 d1 _) rfl ?_
    rintro _ _ _ - ⟨rfl, rfl, rfl⟩
    by_cases hbad : (d1 || d2) = true
    · rw [hbad]
      refine WL.nApp ?_
      refine WL.nil ?_
      refine WX.thenC ?_
      refine WC.condT rfl ?_
      refine WC.exit ?_
      refine WX.thenExit ?_
      refine WX.inPass rfl ?_
      refine WX.thenExit ?_
      refine WX.thenExit ?_
      refine WX.inHit ?_
      refine WX.thenC ?_
      refine WC.seq ?_
      refine WC.region ?_
      refine WL.val Val.move rfl ?_
      refine WL.val Val.assign rfl ?_
      refine WL.nil ?_
      refine WX.thenC ?_
      refine WC.ret ?_
      refine WX.freeze 1 rfl fun I3 hI3 hF => ?_
      have hle := hI0.trans hI3
      apply WX.doneP (ks := [0, 0])
      case hres => exact RunRes.r1 rfl (ResIs.tmp rfl)
      case hI => first | exact Mem.le.refl _ | assumption
      subst hl
      exact ⟨l, sv', d2, d1, bs', ⟨css, hF, hA.imp fun _ _ h => RepMono.mono h hI3⟩, rfl, hB.mono hI3, hfin _ _ _ (.inr (by simp only [st, hbad, if_true])) hR⟩
    · rw [Bool.not_eq_true] at hbad
      rw [hbad]
      refine WL.nApp ?_
      refine WL.nil ?_
      refine WX.thenC ?_
      refine WC.condF rfl ?_
      refine WC.skip ?_
      refine WX.thenC ?_
      refine WC.region ?_
      refine WL.val Val.move rfl ?_
      refine WL.val (Val.moveF rfl) rfl ?_
      refine WL.callP [2, 2] rfl rfl (hel sv' d2 d1 bs' _ hN' hB) rfl ?_
      rintro _ I2 _ hI2 ⟨x, vs, sv2, e2, e1, bs2, rfl, hx, rfl, hB2, hR2⟩
      have hx' := hx
      obtain rfl : vs = Stp.cs x := hx.1
      refine WL.nApp ?_
      (refine WL.buildSlice (by with_unfolding_all exact rfl) rfl (by with_unfolding_all exact rfl) rfl ?_; intro _)
      refine WL.nApp ?_
      refine WL.append (ys := Stp.cs x) 1 rfl rfl rfl (Rd.ownN 5 4 rfl rfl) (by rfl) (by rfl) (by rfl) (by decide) (by decide) (by omega) (by unfold maxLen; omega) rfl ?_
      intro g2 cap2
      refine WL.nSet ?_
      refine WL.val (Val.assignS rfl) rfl ?_
      refine WL.nil ?_
      refine WX.inNormal ?_
      refine WX.thenC ?_
      refine WC.region ?_
      refine WL.val (Val.add rfl rfl (wrap_i64 (by omega) (by omega))) rfl ?_
      refine WL.val (Val.moveI rfl) rfl ?_
      refine WL.nil ?_
      refine WX.conv (fun w h => h.sub [0, 0, 0, 0] rfl) ?_
      refine WX.thenK (WK.round (n.toNat - (k + 1)) (by omega) ⟨k + 1, l ++ [x], css ++ [Stp.cs x], _, sv2, e2, e1, bs2, rfl, by omega, hI0.trans hI2, rfl, rfl, rfl, rfl, rfl, ?_, by simp [hl], (hA.imp fun _ _ h => RepMono.mono h hI2).snoc hx', hB2, hR.snoc hR2⟩)
      rw [List.flatten_append, List.flatten_cons, List.flatten_nil, List.append_nil]
      rfl
  · skip
    refine WC.seq ?_
    refine WC.region ?_
    refine WL.val (Val.lss rfl rfl (decide_eq_false (by omega))) rfl ?_
    refine WL.nil ?_
    refine WX.thenC ?_
    refine WC.seq ?_
    refine WC.condF rfl ?_
    refine WC.exit ?_
    refine WX.thenExit ?_
    refine WX.thenExit ?_
    refine WX.inHit ?_
    refine WX.thenC ?_
    refine WC.seq ?_
    refine WC.region ?_
    refine WL.val Val.move rfl ?_
    refine WL.val Val.assign rfl ?_
    refine WL.nil ?_
    refine WX.thenC ?_
    refine WC.ret ?_
    refine WX.freeze 1 rfl fun I3 hI3 hF => ?_
    have hle := hI0.trans hI3
    apply WX.doneP (ks := [0, 0])
    case hres => exact RunRes.r1 rfl (ResIs.tmp rfl)
    case hI => first | exact Mem.le.refl _ | assumption
    subst hl
    exact ⟨l, sv', d2, d1, bs', ⟨css, hF, hA.imp fun _ _ h => RepMono.mono h hI3⟩, rfl, hB.mono hI3, hfin _ _ _ (.inl (by omega)) hR⟩
theorem listInt (f : Nat) [FnK Tryd.prog f] (a : Value) (c b : Nat) (w : Int → Bs) (ok : Int → Prop)
    (hel : ∀ sv b2 b1 bs I, NeedAt I → Byt I sv bs → Ctr Tryd.prog f [a] I (inL c b sv b2 b1) (RdP hd Int.rep w ok c b (st b1 b2 bs)))
    (most : Int) (hm0 : 0 ≤ most) (hm1 : most ≤ 65536) (sv : Value) (b2 b1 : Bool) (bs : Bs) (I : Mem) (hN : NeedAt I) (hb : Byt I sv bs) :
    Ctr Tryd.prog 82 [ptr c, vi most, .func (.func f) #[a] #[]] I (inL c b sv b2 b1) (RdL Int.rep w ok most c b (st b1 b2 bs)) := by
  refine Ctr.intro Tryd.func82 rfl rfl rfl fun E F => ?_
  refine WC.slNil 3 1 ?_
  refine WC.seq ?_
  refine WC.region ?_
  refine WL.nApp ?_
  refine WL.val (Val.assignS rfl) rfl ?_
  refine WL.nil ?_
  refine WX.thenC ?_
  refine WC.seq ?_
  refine WC.region ?_
  refine WL.val (Val.assignS rfl) rfl ?_
  refine WL.nil ?_
  refine WX.thenC ?_
  refine WC.seq ?_
  refine WC.seq ?_
  refine WC.region ?_
  refine WL.val (Val.moveP rfl) rfl ?_
  refine WL.val (Val.nilCheckP rfl) rfl ?_
  refine WL.val (Val.fldAddr rfl) rfl ?_
  refine WL.val (Val.loadS rfl (Rd.own1 1 rfl rfl)) rfl ?_
  refine WL.val (Val.moveI rfl) rfl ?_
  refine WL.callP [2] rfl rfl (inCount b sv b1 bs most I hb hm0) rfl ?_
  rintro _ I0 _ - ⟨rfl, n, sv1, c1, bs1, rfl, hn, rfl, hB1, hR1⟩
  refine WL.nApp ?_
  refine WL.val (Val.moveI rfl) rfl ?_
  refine WL.nil ?_
  refine WX.thenC ?_
  refine WC.block ?_
  refine WC.conv (fun w h => h.sub [0, 1, 0, 0] rfl) ?_
  refine WC.loop (fun m ρ' I' L' => ∃ k : Nat, ∃ l css v sv' d2 d1 bs', m = n.toNat - k ∧ (k : Int) ≤ n ∧ I0.le I' ∧ ρ' 0 = ptr c ∧ ρ' 2 = .func (.func f) #[a] #[] ∧ ρ' 7 = v ∧ ρ' 13 = vi n ∧ ρ' 14 = vi k
      ∧ L' = F :: sl 3 1 v k css.flatten :: inL c b sv' d2 d1 ∧ l.length = k ∧ All2 (Int.rep I') l css ∧ Byt I' sv' bs'
      ∧ Reads (fun l : List Int => (l.map w).flatten) (fun l => l.length = k ∧ ∀ x ∈ l, ok x) (st c1 b2 bs1) l (st d1 d2 bs'))
    n.toNat ⟨0, [], [], _, sv1, b2, c1, bs1, rfl, hn.1, Mem.le.refl _, rfl, rfl, rfl, rfl, rfl, rfl, rfl, trivial, hB1, Reads.start⟩ ?_
  rintro m ρ' I' L' ⟨k, l, css, v, sv', d2, d1, bs', rfl, hk, hI0, h0, h2, h7, h13, h14, rfl, hl, hA, hB, hR⟩
  rw [← upd_self h14, ← upd_self h13, ← upd_self h7, ← upd_self h2, ← upd_self h0]
  clear h14 h13 h7 h2 h0
  have hN' := hN.mono hI0
  have hfin : ∀ d1 d2 bs', (k = n.toNat ∨ st d1 d2 bs' = none) → Reads (fun l : List Int => (l.map w).flatten) (fun l => l.length = k ∧ ∀ x ∈ l, ok x) (st c1 b2 bs1) l (st d1 d2 bs') →
      Reads (lw w) (fun l => (l.length : Int) ≤ most ∧ ∀ x ∈ l, ok x) (st b1 b2 bs) l (st d1 d2 bs') := by
    intro d1 d2 bs' h hR
    refine (hR1.lift b2).list ?_ (by omega)
    rcases h with rfl | h
    · exact hR
    · rw [h] at hR ⊢
      exact hR.cutoff (by omega)
  by_cases hkn : (k : Int) < n
  · skip
    refine WC.seq ?_
    refine WC.region ?_
    refine WL.val (Val.lss rfl rfl (decide_eq_true (by omega))) rfl ?_
    refine WL.nil ?_
    refine WX.thenC ?_
    refine WC.seq ?_
    refine WC.condT rfl ?_
    refine WC.skip ?_
    refine WX.thenC ?_
    refine WC.seq ?_
    refine WC.block ?_
    refine WC.seq ?_
    refine WC.seq ?_
    refine WC.region ?_
    refine WL.val (Val.moveP rfl) rfl ?_
    refine WL.callP [2, 2] rfl rfl (over_ctr c b sv' d2 d1 _) rfl ?_
    rintro _ _ _ - ⟨rfl, rfl, rfl⟩
    by_cases hbad : (d1 || d2) = true
    · rw [hbad]
      refine WL.nApp ?_
      refine WL.nil ?_
      refine WX.thenC ?_
      refine WC.condT rfl ?_
      refine WC.exit ?_
      refine WX.thenExit ?_
      refine WX.inPass rfl ?_
      refine WX.thenExit ?_
      refine WX.thenExit ?_
      refine WX.inHit ?_
      refine WX.thenC ?_
      refine WC.seq ?_
      refine WC.region ?_
      refine WL.val Val.move rfl ?_
      refine WL.val Val.assign rfl ?_
      refine WL.nil ?_
      refine WX.thenC ?_
      refine WC.ret ?_
      refine WX.freeze 1 rfl fun I3 hI3 hF => ?_
      have hle := hI0.trans hI3
      apply WX.doneP (ks := [0, 0])
      case hres => exact RunRes.r1 rfl (ResIs.tmp rfl)
      case hI => first | exact Mem.le.refl _ | assumption
      subst hl
      exact ⟨l, sv', d2, d1, bs', ⟨css, hF, hA.imp fun _ _ h => RepMono.mono h hI3⟩, rfl, hB.mono hI3, hfin _ _ _ (.inr (by simp only [st, hbad, if_true])) hR⟩
    · rw [Bool.not_eq_true] at hbad
      rw [hbad]
      refine WL.nApp ?_
      refine WL.nil ?_
      refine WX.thenC ?_
      refine WC.condF rfl ?_
      refine WC.skip ?_
      refine WX.thenC ?_
      refine WC.region ?_
      refine WL.val Val.move rfl ?_
      refine WL.val (Val.moveF rfl) rfl ?_
      refine WL.callP [2, 2] rfl rfl (hel sv' d2 d1 bs' _ hN' hB) rfl ?_
      rintro _ I2 _ hI2 ⟨x, vs, sv2, e2, e1, bs2, rfl, hx, rfl, hB2, hR2⟩
      have hx' := hx
      obtain rfl : vs = [vi x] := hx.1
      refine WL.nApp ?_
      (refine WL.buildSlice (by with_unfolding_all exact rfl) rfl (by with_unfolding_all exact rfl) rfl ?_; intro _)
      refine WL.nApp ?_
      refine WL.append (ys := [vi x]) 1 rfl rfl rfl (Rd.ownN 1 4 rfl rfl) (by rfl) (by rfl) (by rfl) (by decide) (by decide) (by omega) (by unfold maxLen; omega) rfl ?_
      intro g2 cap2
      refine WL.nSet ?_
      refine WL.val (Val.assignS rfl) rfl ?_
      refine WL.nil ?_
      refine WX.inNormal ?_
      refine WX.thenC ?_
      refine WC.region ?_
      refine WL.val (Val.add rfl rfl (wrap_i64 (by omega) (by omega))) rfl ?_
      refine WL.val (Val.moveI rfl) rfl ?_
      refine WL.nil ?_
      refine WX.conv (fun w h => h.sub [0, 0, 0, 0] rfl) ?_
      refine WX.thenK (WK.round (n.toNat - (k + 1)) (by omega) ⟨k + 1, l ++ [x], css ++ [[vi x]], _, sv2, e2, e1, bs2, rfl, by omega, hI0.trans hI2, rfl, rfl, rfl, rfl, rfl, ?_, by simp [hl], (hA.imp fun _ _ h => RepMono.mono h hI2).snoc hx', hB2, hR.snoc hR2⟩)
      rw [List.flatten_append, List.flatten_cons, List.flatten_nil, List.append_nil]
      rfl
  · skip
    refine WC.seq ?_
    refine WC.region ?_
    refine WL.val (Val.lss rfl rfl (decide_eq_false (by omega))) rfl ?_
    refine WL.nil ?_
    refine WX.thenC ?_
    refine WC.seq ?_
    refine WC.condF rfl ?_
    refine WC.exit ?_
    refine WX.thenExit ?_
    refine WX.thenExit ?_
    refine WX.inHit ?_
    refine WX.thenC ?_
    refine WC.seq ?_
    refine WC.region ?_
    refine WL.val Val.move rfl ?_
    refine WL.val Val.assign rfl ?_
    refine WL.nil ?_
    refine WX.thenC ?_
    refine WC.ret ?_
    refine WX.freeze 1 rfl fun I3 hI3 hF => ?_
    have hle := hI0.trans hI3
    apply WX.doneP (ks := [0, 0])
    case hres => exact RunRes.r1 rfl (ResIs.tmp rfl)
    case hI => first | exact Mem.le.refl _ | assumption
    subst hl
    exact ⟨l, sv', d2, d1, bs', ⟨css, hF, hA.imp fun _ _ h => RepMono.mono h hI3⟩, rfl, hB.mono hI3, hfin _ _ _ (.inl (by omega)) hR⟩
theorem listSg (f : Nat) [FnK Tryd.prog f] (a : Value) (c b : Nat) (w : Sg → Bs) (ok : Sg → Prop)
    (hel : ∀ sv b2 b1 bs I, NeedAt I → Byt I sv bs → Ctr Tryd.prog f [a] I (inL c b sv b2 b1) (RdP agg Sg.rep w ok c b (st b1 b2 bs)))
    (most : Int) (hm0 : 0 ≤ most) (hm1 : most ≤ 65536) (sv : Value) (b2 b1 : Bool) (bs : Bs) (I : Mem) (hN : NeedAt I) (hb : Byt I sv bs) :
    Ctr Tryd.prog 83 [ptr c, vi most, .func (.func f) #[a] #[]] I (inL c b sv b2 b1) (RdL Sg.rep w ok most c b (st b1 b2 bs)) := by
  refine Ctr.intro Tryd.func83 rfl rfl rfl fun E F => ?_
  refine WC.slNil 44 7 ?_
  refine WC.seq ?_
  refine WC.region ?_
  refine WL.nApp ?_
  refine WL.val (Val.assignS rfl) rfl ?_
  refine WL.nil ?_
  refine WX.thenC ?_
  refine WC.seq ?_
  refine WC.region ?_
  refine WL.val (Val.assignS rfl) rfl ?_
  refine WL.nil ?_
  refine WX.thenC ?_
  refine WC.seq ?_
  refine WC.seq ?_
  refine WC.region ?_
  refine WL.val (Val.moveP rfl) rfl ?_
  refine WL.val (Val.nilCheckP rfl) rfl ?_
  refine WL.val (Val.fldAddr rfl) rfl ?_
  refine WL.val (Val.loadS rfl (Rd.own1 1 rfl rfl)) rfl ?_
  refine WL.val (Val.moveI rfl) rfl ?_
  refine WL.callP [2] rfl rfl (inCount b sv b1 bs most I hb hm0) rfl ?_
  rintro _ I0 _ - ⟨rfl, n, sv1, c1, bs1, rfl, hn, rfl, hB1, hR1⟩
  refine WL.nApp ?_
  refine WL.val (Val.moveI rfl) rfl ?_
  refine WL.nil ?_
  refine WX.thenC ?_
  refine WC.block ?_
  refine WC.conv (fun w h => h.sub [0, 1, 0, 0] rfl) ?_
  refine WC.loop (fun m ρ' I' L' => ∃ k : Nat, ∃ l css v sv' d2 d1 bs', m = n.toNat - k ∧ (k : Int) ≤ n ∧ I0.le I' ∧ ρ' 0 = ptr c ∧ ρ' 2 = .func (.func f) #[a] #[] ∧ ρ' 7 = v ∧ ρ' 13 = vi n ∧ ρ' 14 = vi k
      ∧ L' = F :: sl 44 7 v k css.flatten :: inL c b sv' d2 d1 ∧ l.length = k ∧ All2 (Sg.rep I') l css ∧ Byt I' sv' bs'
      ∧ Reads (fun l : List Sg => (l.map w).flatten) (fun l => l.length = k ∧ ∀ x ∈ l, ok x) (st c1 b2 bs1) l (st d1 d2 bs'))
    n.toNat ⟨0, [], [], _, sv1, b2, c1, bs1, rfl, hn.1, Mem.le.refl _, rfl, rfl, rfl, rfl, rfl, rfl, rfl, trivial, hB1, Reads.start⟩ ?_
  rintro m ρ' I' L' ⟨k, l, css, v, sv', d2, d1, bs', rfl, hk, hI0, h0, h2, h7, h13, h14, rfl, hl, hA, hB, hR⟩
  rw [← upd_self h14, ← upd_self h13, ← upd_self h7, ← upd_self h2, ← upd_self h0]
  clear h14 h13 h7 h2 h0
  have hN' := hN.mono hI0
  have hfin : ∀ d1 d2 bs', (k = n.toNat ∨ st d1 d2 bs' = none) → Reads (fun l : List Sg => (l.map w).flatten) (fun l => l.length = k ∧ ∀ x ∈ l, ok x) (st c1 b2 bs1) l (st d1 d2 bs') →
      Reads (lw w) (fun l => (l.length : Int) ≤ most ∧ ∀ x ∈ l, ok x) (st b1 b2 bs) l (st d1 d2 bs') := by
    intro d1 d2 bs' h hR
    refine (hR1.lift b2).list ?_ (by omega)
    rcases h with rfl | h
    · exact hR
    · rw [h] at hR ⊢
      exact hR.cutoff (by omega)
  by_cases hkn : (k : Int) < n
  · skip
    refine WC.seq ?_
    refine WC.region ?_
    refine WL.val (Val.lss rfl rfl (decide_eq_true (by omega))) rfl ?_
    refine WL.nil ?_
    refine WX.thenC ?_
    refine WC.seq ?_
    refine WC.condT rfl ?_
    refine WC.skip ?_
    refine WX.thenC ?_
    refine WC.seq ?_
    refine WC.block ?_
    refine WC.seq ?_
    refine WC.seq ?_
    refine WC.region ?_
    refine WL.val (Val.moveP rfl) rfl ?_
    refine WL.callP [2, 2] rfl rfl (over_ctr c b sv' d2 d1 _) rfl ?_
    rintro _ _ _ - ⟨rfl, rfl, rfl⟩
    by_cases hbad : (d1 || d2) = true
    · rw [hbad]
      refine WL.nApp ?_
      refine WL.nil ?_
      refine WX.thenC ?_
      refine WC.condT rfl ?_
      refine WC.exit ?_
      refine WX.thenExit ?_
      refine WX.inPass rfl ?_
      refine WX.thenExit ?_
      refine WX.thenExit ?_
      refine WX.inHit ?_
      refine WX.thenC ?_
      refine WC.seq ?_
      refine WC.region ?_
      refine WL.val Val.move rfl ?_
      refine WL.val Val.assign rfl ?_
      refine WL.nil ?_
      refine WX.thenC ?_
      refine WC.ret ?_
      refine WX.freeze 1 rfl fun I3 hI3 hF => ?_
      have hle := hI0.trans hI3
      apply WX.doneP (ks := [0, 0])
      case hres => exact RunRes.r1 rfl (ResIs.tmp rfl)
      case hI => first | exact Mem.le.refl _ | assumption
      subst hl
      exact ⟨l, sv', d2, d1, bs', ⟨css, hF, hA.imp fun _ _ h => RepMono.mono h hI3⟩, rfl, hB.mono hI3, hfin _ _ _ (.inr (by simp only [st, hbad, if_true])) hR⟩
    · rw [Bool.not_eq_true] at hbad
      rw [hbad]
      refine WL.nApp ?_
      refine WL.nil ?_
      refine WX.thenC ?_
      refine WC.condF rfl ?_
      refine WC.skip ?_
      refine WX.thenC ?_
      refine WC.region ?_
      refine WL.val Val.move rfl ?_
      refine WL.val (Val.moveF rfl) rfl ?_
      refine WL.callP [2, 2] rfl rfl (hel sv' d2 d1 bs' _ hN' hB) rfl ?_
      rintro _ I2 _ hI2 ⟨x, vs, sv2, e2, e1, bs2, rfl, hx, rfl, hB2, hR2⟩
      have hx' := hx
      obtain rfl : vs = Sg.cs x := hx.1
      refine WL.nApp ?_
      (refine WL.buildSlice (by with_unfolding_all exact rfl) rfl (by with_unfolding_all exact rfl) rfl ?_; intro _)
      refine WL.nApp ?_
      refine WL.append (ys := Sg.cs x) 1 rfl rfl rfl (Rd.ownN 7 4 rfl rfl) (by rfl) (by rfl) (by rfl) (by decide) (by decide) (by omega) (by unfold maxLen; omega) rfl ?_
      intro g2 cap2
      refine WL.nSet ?_
      refine WL.val (Val.assignS rfl) rfl ?_
      refine WL.nil ?_
      refine WX.inNormal ?_
      refine WX.thenC ?_
      refine WC.region ?_
      refine WL.val (Val.add rfl rfl (wrap_i64 (by omega) (by omega))) rfl ?_
      refine WL.val (Val.moveI rfl) rfl ?_
      refine WL.nil ?_
      refine WX.conv (fun w h => h.sub [0, 0, 0, 0] rfl) ?_
      refine WX.thenK (WK.round (n.toNat - (k + 1)) (by omega) ⟨k + 1, l ++ [x], css ++ [Sg.cs x], _, sv2, e2, e1, bs2, rfl, by omega, hI0.trans hI2, rfl, rfl, rfl, rfl, rfl, ?_, by simp [hl], (hA.imp fun _ _ h => RepMono.mono h hI2).snoc hx', hB2, hR.snoc hR2⟩)
      rw [List.flatten_append, List.flatten_cons, List.flatten_nil, List.append_nil]
      rfl
  · skip
    refine WC.seq ?_
    refine WC.region ?_
    refine WL.val (Val.lss rfl rfl (decide_eq_false (by omega))) rfl ?_
    refine WL.nil ?_
    refine WX.thenC ?_
    refine WC.seq ?_
    refine WC.condF rfl ?_
    refine WC.exit ?_
    refine WX.thenExit ?_
    refine WX.thenExit ?_
    refine WX.inHit ?_
    refine WX.thenC ?_
    refine WC.seq ?_
    refine WC.region ?_
    refine WL.val Val.move rfl ?_
    refine WL.val Val.assign rfl ?_
    refine WL.nil ?_
    refine WX.thenC ?_
    refine WC.ret ?_
    refine WX.freeze 1 rfl fun I3 hI3 hF => ?_
    have hle := hI0.trans hI3
    apply WX.doneP (ks := [0, 0])
    case hres => exact RunRes.r1 rfl (ResIs.tmp rfl)
    case hI => first | exact Mem.le.refl _ | assumption
    subst hl
    exact ⟨l, sv', d2, d1, bs', ⟨css, hF, hA.imp fun _ _ h => RepMono.mono h hI3⟩, rfl, hB.mono hI3, hfin _ _ _ (.inl (by omega)) hR⟩
theorem listEnt (f : Nat) [FnK Tryd.prog f] (a : Value) (c b : Nat) (w : Ent → Bs) (ok : Ent → Prop)
    (hel : ∀ sv b2 b1 bs I, NeedAt I → Byt I sv bs → Ctr Tryd.prog f [a] I (inL c b sv b2 b1) (RdP agg Ent.rep w ok c b (st b1 b2 bs)))
    (most : Int) (hm0 : 0 ≤ most) (hm1 : most ≤ 65536) (sv : Value) (b2 b1 : Bool) (bs : Bs) (I : Mem) (hN : NeedAt I) (hb : Byt I sv bs) :
    Ctr Tryd.prog 79 [ptr c, vi most, .func (.func f) #[a] #[]] I (inL c b sv b2 b1) (RdL Ent.rep w ok most c b (st b1 b2 bs)) := by
  refine Ctr.intro Tryd.func79 rfl rfl rfl fun E F => ?_
  refine WC.slNil 82 37 ?_
  refine WC.seq ?_
  refine WC.region ?_
  refine WL.nApp ?_
  refine WL.val (Val.assignS rfl) rfl ?_
  refine WL.nil ?_
  refine WX.thenC ?_
  refine WC.seq ?_
  refine WC.region ?_
  refine WL.val (Val.assignS rfl) rfl ?_
  refine WL.nil ?_
  refine WX.thenC ?_
  refine WC.seq ?_
  refine WC.seq ?_
  refine WC.region ?_
  refine WL.val (Val.moveP rfl) rfl ?_
  refine WL.val (Val.nilCheckP rfl) rfl ?_
  refine WL.val (Val.fldAddr rfl) rfl ?_
  refine WL.val (Val.loadS rfl (Rd.own1 1 rfl rfl)) rfl ?_
  refine WL.val (Val.moveI rfl) rfl ?_
  refine WL.callP [2] rfl rfl (inCount b sv b1 bs most I hb hm0) rfl ?_
  rintro _ I0 _ - ⟨rfl, n, sv1, c1, bs1, rfl, hn, rfl, hB1, hR1⟩
  refine WL.nApp ?_
  refine WL.val (Val.moveI rfl) rfl ?_
  refine WL.nil ?_
  refine WX.thenC ?_
  refine WC.block ?_
  refine WC.conv (fun w h => h.sub [0, 1, 0, 0] rfl) ?_
  refine WC.loop (fun m ρ' I' L' => ∃ k : Nat, ∃ l css v sv' d2 d1 bs', m = n.toNat - k ∧ (k : Int) ≤ n ∧ I0.le I' ∧ ρ' 0 = ptr c ∧ ρ' 2 = .func (.func f) #[a] #[] ∧ ρ' 7 = v ∧ ρ' 13 = vi n ∧ ρ' 14 = vi k
      ∧ L' = F :: sl 82 37 v k css.flatten :: inL c b sv' d2 d1 ∧ l.length = k ∧ All2 (Ent.rep I') l css ∧ Byt I' sv' bs'
      ∧ Reads (fun l : List Ent => (l.map w).flatten) (fun l => l.length = k ∧ ∀ x ∈ l, ok x) (st c1 b2 bs1) l (st d1 d2 bs'))
    n.toNat ⟨0, [], [], _, sv1, b2, c1, bs1, rfl, hn.1, Mem.le.refl _, rfl, rfl, rfl, rfl, rfl, rfl, rfl, trivial, hB1, Reads.start⟩ ?_
  rintro m ρ' I' L' ⟨k, l, css, v, sv', d2, d1, bs', rfl, hk, hI0, h0, h2, h7, h13, h14, rfl, hl, hA, hB, hR⟩
  rw [← upd_self h14, ← upd_self h13, ← upd_self h7, ← upd_self h2, ← upd_self h0]
  clear h14 h13 h7 h2 h0
  have hN' := hN.mono hI0
  have hfin : ∀ d1 d2 bs', (k = n.toNat ∨ st d1 d2 bs' = none) → Reads (fun l : List Ent => (l.map w).flatten) (fun l => l.length = k ∧ ∀ x ∈ l, ok x) (st c1 b2 bs1) l (st d1 d2 bs') →
      Reads (lw w) (fun l => (l.length : Int) ≤ most ∧ ∀ x ∈ l, ok x) (st b1 b2 bs) l (st d1 d2 bs') := by
    intro d1 d2 bs' h hR
    refine (hR1.lift b2).list ?_ (by omega)
    rcases h with rfl | h
    · exact hR
    · rw [h] at hR ⊢
      exact hR.cutoff (by omega)
  by_cases hkn : (k : Int) < n
  · skip
    refine WC.seq ?_
    refine WC.region ?_
    refine WL.val (Val.lss rfl rfl (decide_eq_true (by omega))) rfl ?_
    refine WL.nil ?_
    refine WX.thenC ?_
    refine WC.seq ?_
    refine WC.condT rfl ?_
    refine WC.skip ?_
    refine WX.thenC ?_
    refine WC.seq ?_
    refine WC.block ?_
    refine WC.seq ?_
    refine WC.seq ?_
    refine WC.region ?_
    refine WL.val (Val.moveP rfl) rfl ?_
    refine WL.callP [2, 2] rfl rfl (over_ctr c b sv' d2 d1 _) rfl ?_
    rintro _ _ _ - ⟨rfl, rfl, rfl⟩
    by_cases hbad : (d1 || d2) = true
    · rw [hbad]
      refine WL.nApp ?_
      refine WL.nil ?_
      refine WX.thenC ?_
      refine WC.condT rfl ?_
      refine WC.exit ?_
      refine WX.thenExit ?_
      refine WX.inPass rfl ?_
      refine WX.thenExit ?_
      refine WX.thenExit ?_
      refine WX.inHit ?_
      refine WX.thenC ?_
      refine WC.seq ?_
      refine WC.region ?_
      refine WL.val Val.move rfl ?_
      refine WL.val Val.assign rfl ?_
      refine WL.nil ?_
      refine WX.thenC ?_
      refine WC.ret ?_
      refine WX.freeze 1 rfl fun I3 hI3 hF => ?_
      have hle := hI0.trans hI3
      apply WX.doneP (ks := [0, 0])
      case hres => exact RunRes.r1 rfl (ResIs.tmp rfl)
      case hI => first | exact Mem.le.refl _ | assumption
      subst hl
      exact ⟨l, sv', d2, d1, bs', ⟨css, hF, hA.imp fun _ _ h => RepMono.mono h hI3⟩, rfl, hB.mono hI3, hfin _ _ _ (.inr (by simp only [st, hbad, if_true])) hR⟩
    · rw [Bool.not_eq_true] at hbad
      rw [hbad]
      refine WL.nApp ?_
      refine WL.nil ?_
      refine WX.thenC ?_
      refine WC.condF rfl ?_
      refine WC.skip ?_
      refine WX.thenC ?_
      refine WC.region ?_
      refine WL.val Val.move rfl ?_
      refine WL.val (Val.moveF rfl) rfl ?_
      refine WL.callP [2, 2] rfl rfl (hel sv' d2 d1 bs' _ hN' hB) rfl ?_
      rintro _ I2 _ hI2 ⟨x, vs, sv2, e2, e1, bs2, rfl, hx, rfl, hB2, hR2⟩
      have hx' := hx
      obtain ⟨t1, t2, t3, t4, rfl, hat⟩ := hx
      obtain ⟨a1, k1, a2, k2, a3, k3, a4, k4, rfl, rfl, rfl, rfl⟩ := hat.sl
      refine WL.nApp ?_
      (refine WL.buildSlice (by with_unfolding_all exact rfl) rfl (by with_unfolding_all exact rfl) rfl ?_; intro _)
      refine WL.nApp ?_
      refine WL.append (ys := Ent.cs x (.slice a1 x.atr.sty.fill.stops.length k1) (.slice a2 x.atr.sty.pen.stops.length k2) (.slice a3 x.atr.sty.dash.length k3) (.slice a4 x.atr.path.length k4)) 1 rfl rfl rfl (Rd.ownN 37 4 rfl rfl) (by rfl) (by rfl) (by rfl) (by decide) (by decide) (by omega) (by unfold maxLen; omega) rfl ?_
      intro g2 cap2
      refine WL.nSet ?_
      refine WL.val (Val.assignS rfl) rfl ?_
      refine WL.nil ?_
      refine WX.inNormal ?_
      refine WX.thenC ?_
      refine WC.region ?_
      refine WL.val (Val.add rfl rfl (wrap_i64 (by omega) (by omega))) rfl ?_
      refine WL.val (Val.moveI rfl) rfl ?_
      refine WL.nil ?_
      refine WX.conv (fun w h => h.sub [0, 0, 0, 0] rfl) ?_
      refine WX.thenK (WK.round (n.toNat - (k + 1)) (by omega) ⟨k + 1, l ++ [x], css ++ [Ent.cs x (.slice a1 x.atr.sty.fill.stops.length k1) (.slice a2 x.atr.sty.pen.stops.length k2) (.slice a3 x.atr.sty.dash.length k3) (.slice a4 x.atr.path.length k4)], _, sv2, e2, e1, bs2, rfl, by omega, hI0.trans hI2, rfl, rfl, rfl, rfl, rfl, ?_, by simp [hl], (hA.imp fun _ _ h => RepMono.mono h hI2).snoc hx', hB2, hR.snoc hR2⟩)
      rw [List.flatten_append, List.flatten_cons, List.flatten_nil, List.append_nil]
      rfl
  · skip
    refine WC.seq ?_
    refine WC.region ?_
    refine WL.val (Val.lss rfl rfl (decide_eq_false (by omega))) rfl ?_
    refine WL.nil ?_
    refine WX.thenC ?_
    refine WC.seq ?_
    refine WC.condF rfl ?_
    refine WC.exit ?_
    refine WX.thenExit ?_
    refine WX.thenExit ?_
    refine WX.inHit ?_
    refine WX.thenC ?_
    refine WC.seq ?_
    refine WC.region ?_
    refine WL.val Val.move rfl ?_
    refine WL.val Val.assign rfl ?_
    refine WL.nil ?_
    refine WX.thenC ?_
    refine WC.ret ?_
    refine WX.freeze 1 rfl fun I3 hI3 hF => ?_
    have hle := hI0.trans hI3
    apply WX.doneP (ks := [0, 0])
    case hres => exact RunRes.r1 rfl (ResIs.tmp rfl)
    case hI => first | exact Mem.le.refl _ | assumption
    subst hl
    exact ⟨l, sv', d2, d1, bs', ⟨css, hF, hA.imp fun _ _ h => RepMono.mono h hI3⟩, rfl, hB.mono hI3, hfin _ _ _ (.inl (by omega)) hR⟩
theorem listCm (f : Nat) [FnK Tryd.prog f] (a : Value) (c b : Nat) (w : Cm → Bs) (ok : Cm → Prop)
    (hel : ∀ sv b2 b1 bs I, NeedAt I → Byt I sv bs → Ctr Tryd.prog f [a] I (inL c b sv b2 b1) (RdP agg Cm.rep w ok c b (st b1 b2 bs)))
    (most : Int) (hm0 : 0 ≤ most) (hm1 : most ≤ 65536) (sv : Value) (b2 b1 : Bool) (bs : Bs) (I : Mem) (hN : NeedAt I) (hb : Byt I sv bs) :
    Ctr Tryd.prog 45 [ptr c, vi most, .func (.func f) #[a] #[]] I (inL c b sv b2 b1) (RdL Cm.rep w ok most c b (st b1 b2 bs)) := by
  refine Ctr.intro Tryd.func45 rfl rfl rfl fun E F => ?_
  refine WC.slNil 46 51 ?_
  refine WC.seq ?_
  refine WC.region ?_
  refine WL.nApp ?_
  refine WL.val (Val.assignS rfl) rfl ?_
  refine WL.nil ?_
  refine WX.thenC ?_
  refine WC.seq ?_
  refine WC.region ?_
  refine WL.val (Val.assignS rfl) rfl ?_
  refine WL.nil ?_
  refine WX.thenC ?_
  refine WC.seq ?_
  refine WC.seq ?_
  refine WC.region ?_
  refine WL.val (Val.moveP rfl) rfl ?_
  refine WL.val (Val.nilCheckP rfl) rfl ?_
  refine WL.val (Val.fldAddr rfl) rfl ?_
  refine WL.val (Val.loadS rfl (Rd.own1 1 rfl rfl)) rfl ?_
  refine WL.val (Val.moveI rfl) rfl ?_
  refine WL.callP [2] rfl rfl (inCount b sv b1 bs most I hb hm0) rfl ?_
  rintro _ I0 _ - ⟨rfl, n, sv1, c1, bs1, rfl, hn, rfl, hB1, hR1⟩
  refine WL.nApp ?_
  refine WL.val (Val.moveI rfl) rfl ?_
  refine WL.nil ?_
  refine WX.thenC ?_
  refine WC.block ?_
  refine WC.conv (fun w h => h.sub [0, 1, 0, 0] rfl) ?_
  refine WC.loop (fun m ρ' I' L' => ∃ k : Nat, ∃ l css v sv' d2 d1 bs', m = n.toNat - k ∧ (k : Int) ≤ n ∧ I0.le I' ∧ ρ' 0 = ptr c ∧ ρ' 2 = .func (.func f) #[a] #[] ∧ ρ' 7 = v ∧ ρ' 13 = vi n ∧ ρ' 14 = vi k
      ∧ L' = F :: sl 46 51 v k css.flatten :: inL c b sv' d2 d1 ∧ l.length = k ∧ All2 (Cm.rep I') l css ∧ Byt I' sv' bs'
      ∧ Reads (fun l : List Cm => (l.map w).flatten) (fun l => l.length = k ∧ ∀ x ∈ l, ok x) (st c1 b2 bs1) l (st d1 d2 bs'))
    n.toNat ⟨0, [], [], _, sv1, b2, c1, bs1, rfl, hn.1, Mem.le.refl _, rfl, rfl, rfl, rfl, rfl, rfl, rfl, trivial, hB1, Reads.start⟩ ?_
  rintro m ρ' I' L' ⟨k, l, css, v, sv', d2, d1, bs', rfl, hk, hI0, h0, h2, h7, h13, h14, rfl, hl, hA, hB, hR⟩
  rw [← upd_self h14, ← upd_self h13, ← upd_self h7, ← upd_self h2, ← upd_self h0]
  clear h14 h13 h7 h2 h0
  have hN' := hN.mono hI0
  have hfin : ∀ d1 d2 bs', (k = n.toNat ∨ st d1 d2 bs' = none) → Reads (fun l : List Cm => (l.map w).flatten) (fun l => l.length = k ∧ ∀ x ∈ l, ok x) (st c1 b2 bs1) l (st d1 d2 bs') →
      Reads (lw w) (fun l => (l.length : Int) ≤ most ∧ ∀ x ∈ l, ok x) (st b1 b2 bs) l (st d1 d2 bs') := by
    intro d1 d2 bs' h hR
    refine (hR1.lift b2).list ?_ (by omega)
    rcases h with rfl | h
    · exact hR
    · rw [h] at hR ⊢
      exact hR.cutoff (by omega)
  by_cases hkn : (k : Int) < n
  · skip
    refine WC.seq ?_
    refine WC.region ?_
    refine WL.val (Val.lss rfl rfl (decide_eq_true (by omega))) rfl ?_
    refine WL.nil ?_
    refine WX.thenC ?_
    refine WC.seq ?_
    refine WC.condT rfl ?_
    refine WC.skip ?_
    refine WX.thenC ?_
    refine WC.seq ?_
    refine WC.block ?_
    refine WC.seq ?_
    refine WC.seq ?_
    refine WC.region ?_
    refine WL.val (Val.moveP rfl) rfl ?_
    refine WL.callP [2, 2] rfl rfl (over_ctr c b sv' d2 d1 _) rfl ?_
    rintro _ _ _ - ⟨rfl, rfl, rfl⟩
    by_cases hbad : (d1 || d2) = true
    · rw [hbad]
      refine WL.nApp ?_
      refine WL.nil ?_
      refine WX.thenC ?_
      refine WC.condT rfl ?_
      refine WC.exit ?_
      refine WX.thenExit ?_
      refine WX.inPass rfl ?_
      refine WX.thenExit ?_
      refine WX.thenExit ?_
      refine WX.inHit ?_
      refine WX.thenC ?_
      refine WC.seq ?_
      refine WC.region ?_
      refine WL.val Val.move rfl ?_
      refine WL.val Val.assign rfl ?_
      refine WL.nil ?_
      refine WX.thenC ?_
      refine WC.ret ?_
      refine WX.freeze 1 rfl fun I3 hI3 hF => ?_
      have hle := hI0.trans hI3
      apply WX.doneP (ks := [0, 0])
      case hres => exact RunRes.r1 rfl (ResIs.tmp rfl)
      case hI => first | exact Mem.le.refl _ | assumption
      subst hl
      exact ⟨l, sv', d2, d1, bs', ⟨css, hF, hA.imp fun _ _ h => RepMono.mono h hI3⟩, rfl, hB.mono hI3, hfin _ _ _ (.inr (by simp only [st, hbad, if_true])) hR⟩
    · rw [Bool.not_eq_true] at hbad
      rw [hbad]
      refine WL.nApp ?_
      refine WL.nil ?_
      refine WX.thenC ?_
      refine WC.condF rfl ?_
      refine WC.skip ?_
      refine WX.thenC ?_
      refine WC.region ?_
      refine WL.val Val.move rfl ?_
      refine WL.val (Val.moveF rfl) rfl ?_
      refine WL.callP [2, 2] rfl rfl (hel sv' d2 d1 bs' _ hN' hB) rfl ?_
      rintro _ I2 _ hI2 ⟨x, vs, sv2, e2, e1, bs2, rfl, hx, rfl, hB2, hR2⟩
      have hx' := hx
      obtain ⟨t0, t1, t2, t3, t4, rfl, hat⟩ := hx
      obtain ⟨a0, k0, a1, k1, a2, k2, a3, k3, a4, k4, rfl, rfl, rfl, rfl, rfl⟩ := hat.sl
      refine WL.nApp ?_
      (refine WL.buildSlice (by with_unfolding_all exact rfl) rfl (by with_unfolding_all exact rfl) rfl ?_; intro _)
      refine WL.nApp ?_
      refine WL.append (ys := Cm.cs x (.slice a0 x.ents.length k0) (.slice a1 x.atr.sty.fill.stops.length k1) (.slice a2 x.atr.sty.pen.stops.length k2) (.slice a3 x.atr.sty.dash.length k3) (.slice a4 x.atr.path.length k4)) 1 rfl rfl rfl (Rd.ownN 51 4 rfl rfl) (by rfl) (by rfl) (by rfl) (by decide) (by decide) (by omega) (by unfold maxLen; omega) rfl ?_
      intro g2 cap2
      refine WL.nSet ?_
      refine WL.val (Val.assignS rfl) rfl ?_
      refine WL.nil ?_
      refine WX.inNormal ?_
      refine WX.thenC ?_
      refine WC.region ?_
      refine WL.val (Val.add rfl rfl (wrap_i64 (by omega) (by omega))) rfl ?_
      refine WL.val (Val.moveI rfl) rfl ?_
      refine WL.nil ?_
      refine WX.conv (fun w h => h.sub [0, 0, 0, 0] rfl) ?_
      refine WX.thenK (WK.round (n.toNat - (k + 1)) (by omega) ⟨k + 1, l ++ [x], css ++ [Cm.cs x (.slice a0 x.ents.length k0) (.slice a1 x.atr.sty.fill.stops.length k1) (.slice a2 x.atr.sty.pen.stops.length k2) (.slice a3 x.atr.sty.dash.length k3) (.slice a4 x.atr.path.length k4)], _, sv2, e2, e1, bs2, rfl, by omega, hI0.trans hI2, rfl, rfl, rfl, rfl, rfl, ?_, by simp [hl], (hA.imp fun _ _ h => RepMono.mono h hI2).snoc hx', hB2, hR.snoc hR2⟩)
      rw [List.flatten_append, List.flatten_cons, List.flatten_nil, List.append_nil]
      rfl
  · skip
    refine WC.seq ?_
    refine WC.region ?_
    refine WL.val (Val.lss rfl rfl (decide_eq_false (by omega))) rfl ?_
    refine WL.nil ?_
    refine WX.thenC ?_
    refine WC.seq ?_
    refine WC.condF rfl ?_
    refine WC.exit ?_
    refine WX.thenExit ?_
    refine WX.thenExit ?_
    refine WX.inHit ?_
    refine WX.thenC ?_
    refine WC.seq ?_
    refine WC.region ?_
    refine WL.val Val.move rfl ?_
    refine WL.val Val.assign rfl ?_
    refine WL.nil ?_
    refine WX.thenC ?_
    refine WC.ret ?_
    refine WX.freeze 1 rfl fun I3 hI3 hF => ?_
    have hle := hI0.trans hI3
    apply WX.doneP (ks := [0, 0])
    case hres => exact RunRes.r1 rfl (ResIs.tmp rfl)
    case hI => first | exact Mem.le.refl _ | assumption
    subst hl
    exact ⟨l, sv', d2, d1, bs', ⟨css, hF, hA.imp fun _ _ h => RepMono.mono h hI3⟩, rfl, hB.mono hI3, hfin _ _ _ (.inl (by omega)) hR⟩
end Go.Proofs.YtfdeckdongonnaaDoor
