/-
  Code, the walks: the document's bytes (1): numbers, texts, colours, matrices.
-/
import Derived.Test.YtfdeckdongonnaaDoorC25
import Derived.Test.YtfdeckdongonnaaDoorSepH
namespace Go.Proofs.YtfdeckdongonnaaDoor
open Go.Sl Go.Cd
set_option maxRecDepth 100000
set_option maxHeartbeats 4000000
set_option linter.unusedVariables false
attribute [local irreducible] WC WL WX WK WA WAK Val Ctr RunRes ResIs Rd At sl box pt Exit.then Exit.inBlock bodyPost Code.wp wpList
theorem rzig (n : Int) (I : Mem) (h : I64 n) : Ctr Tryd.prog 74 [vi n] I [] (Still I fun v => v = .int .u64 ((zig n : Nat) : Int)) := by
  obtain ⟨h0, h1⟩ := h
  refine Ctr.intro Tryd.func74 rfl rfl rfl fun E F => ?_
  by_cases hn : 0 ≤ n
  · skip
    refine WC.seq ?_
    refine WC.region ?_
    refine WL.val (Val.assignI rfl) rfl ?_
    refine WL.nil ?_
    refine WX.thenC ?_
    refine WC.seq ?_
    refine WC.seq ?_
    refine WC.region ?_
    refine WL.val (Val.moveI rfl) rfl ?_
    refine WL.val (Val.geq rfl rfl (decide_eq_true (by omega))) rfl ?_
    refine WL.nil ?_
    refine WX.thenC ?_
    refine WC.condT rfl ?_
    refine WC.seq ?_
    refine WC.region ?_
    refine WL.val (Val.moveI rfl) rfl ?_
    refine WL.val (Val.convert rfl (wrap_u64 (by omega) (by omega))) rfl ?_
    refine WL.val (Val.mul rfl rfl (wrap_u64 (by omega) (by omega))) rfl ?_
    refine WL.val (Val.assignI rfl) rfl ?_
    refine WL.nil ?_
    refine WX.thenC ?_
    refine WC.ret ?_
    refine WX.thenRet ?_
    apply WX.doneP (ks := [])
    case hres => exact RunRes.r1 rfl (ResIs.tmpI rfl)
    case hI => first | exact Mem.le.refl _ | assumption
    refine ⟨rfl, rfl, ?_⟩
    congr 1
    unfold zig
    rw [if_pos hn]
    omega
  · skip
    refine WC.seq ?_
    refine WC.region ?_
    refine WL.val (Val.assignI rfl) rfl ?_
    refine WL.nil ?_
    refine WX.thenC ?_
    refine WC.seq ?_
    refine WC.seq ?_
    refine WC.region ?_
    refine WL.val (Val.moveI rfl) rfl ?_
    refine WL.val (Val.geq rfl rfl (decide_eq_false (by omega))) rfl ?_
    refine WL.nil ?_
    refine WX.thenC ?_
    refine WC.condF rfl ?_
    refine WC.skip ?_
    refine WX.thenC ?_
    refine WC.seq ?_
    refine WC.region ?_
    refine WL.val (Val.moveI rfl) rfl ?_
    refine WL.val (Val.add rfl rfl (wrap_i64 (by omega) (by omega))) rfl ?_
    refine WL.val (Val.neg rfl (wrap_i64 (by omega) (by omega))) rfl ?_
    refine WL.val (Val.convert rfl (wrap_u64 (by omega) (by omega))) rfl ?_
    refine WL.val (Val.mul rfl rfl (wrap_u64 (by omega) (by omega))) rfl ?_
    refine WL.val (Val.add rfl rfl (wrap_u64 (by omega) (by omega))) rfl ?_
    refine WL.val (Val.assignI rfl) rfl ?_
    refine WL.nil ?_
    refine WX.thenC ?_
    refine WC.ret ?_
    apply WX.doneP (ks := [])
    case hres => exact RunRes.r1 rfl (ResIs.tmpI rfl)
    case hI => first | exact Mem.le.refl _ | assumption
    refine ⟨rfl, rfl, ?_⟩
    congr 1
    unfold zig
    rw [if_neg hn]
    omega
theorem rInt (n : Int) (I : Mem) (h : I64 n) : Ctr Tryd.prog 42 [vi n] I [] (OwnB (eInt n)) := by
  have hel := eInt_len h
  refine Ctr.intro Tryd.func42 rfl rfl rfl fun E F => ?_
  refine WC.seq ?_
  refine WC.region ?_
  refine WL.val (Val.assignS rfl) rfl ?_
  refine WL.nil ?_
  refine WX.thenC ?_
  refine WC.seq ?_
  refine WC.region ?_
  refine WL.val (Val.moveI rfl) rfl ?_
  refine WL.callS rfl rfl (rzig n I h) rfl ?_
  rintro _ rfl
  refine WL.val (Val.assignI rfl) rfl ?_
  refine WL.nil ?_
  refine WX.thenC ?_
  refine WC.seq ?_
  refine WC.region ?_
  refine WL.val (Val.assignS rfl) rfl ?_
  refine WL.nil ?_
  refine WX.thenC ?_
  refine WC.seq ?_
  refine WC.block ?_
  refine WC.slNil 5 1 ?_
  refine WC.nApp ?_
  refine WC.loop (fun z ρ' I' L' => ∃ a cap bs', I.le I' ∧ z < 18446744073709551616 ∧ ρ' 3 = .int .u64 (z : Nat) ∧ ρ' 4 = .slice a (bs' : Bs).length cap ∧ L' = [F, sl 5 1 (.slice a bs'.length cap) bs'.length (bs'.map byt)] ∧ bs'.length + (leb z).length = (eInt n).length ∧ bs' ++ leb z = eInt n) (zig n)
    ⟨none, 0, [], Mem.le.refl _, zig_lt h, rfl, rfl, rfl, by simp [eInt], rfl⟩ ?_
  rintro z ρ' I' L' ⟨a, cap, bs', hI, hz, h3, h4, rfl, hlen, heq⟩
  rw [← upd_self h4, ← upd_self h3]
  clear h4 h3
  by_cases hc : z < 128
  · rw [leb_small hc] at heq hlen
    refine WC.seq ?_
    refine WC.seq ?_
    refine WC.region ?_
    refine WL.val (Val.moveI rfl) rfl ?_
    refine WL.val (Val.gtr rfl rfl (decide_eq_false (by omega))) rfl ?_
    refine WL.nil ?_
    refine WX.thenC ?_
    refine WC.condF rfl ?_
    refine WC.exit ?_
    refine WX.thenExit ?_
    refine WX.thenExit ?_
    refine WX.inHit ?_
    refine WX.thenC ?_
    refine WC.seq ?_
    refine WC.region ?_
    refine WL.val (Val.moveS rfl) rfl ?_
    refine WL.val (Val.moveI rfl) rfl ?_
    refine WL.val (Val.convert rfl (wrap_u8 (by omega) (by omega))) rfl ?_
    (refine WL.buildSlice (by with_unfolding_all exact rfl) rfl (by with_unfolding_all exact rfl) rfl ?_; intro _)
    refine WL.nApp ?_
    rename_i g
    refine WL.freezeBox (xs := [.int .u8 (z : Nat)]) 2 rfl fun I2 hI2 hA => ?_
    refine WL.appB 1 rfl rfl rfl (litByt hA (by omega)) rfl (by simp at hlen ⊢; omega) rfl fun aa cc => ?_
    refine WL.nSet ?_
    refine WL.val (Val.assignS rfl) rfl ?_
    refine WL.nil ?_
    refine WX.thenC ?_
    refine WC.ret ?_
    have hI3 := hI.trans hI2
    apply WX.doneP (ks := [0])
    case hres => exact RunRes.r1 rfl (ResIs.tmpS rfl)
    case hI => first | exact Mem.le.refl _ | assumption
    show [_] = [_]
    rw [← heq]
    rfl
  · rw [leb_big hc] at heq hlen
    simp only [List.length_cons] at hlen
    refine WC.seq ?_
    refine WC.seq ?_
    refine WC.region ?_
    refine WL.val (Val.moveI rfl) rfl ?_
    refine WL.val (Val.gtr rfl rfl (decide_eq_true (by omega))) rfl ?_
    refine WL.nil ?_
    refine WX.thenC ?_
    refine WC.condT rfl ?_
    refine WC.skip ?_
    refine WX.thenC ?_
    refine WC.block ?_
    refine WC.seq ?_
    refine WC.region ?_
    refine WL.val (Val.moveS rfl) rfl ?_
    refine WL.val (Val.moveI rfl) rfl ?_
    refine WL.val (Val.rem rfl rfl (by decide) (show Int.tmod ((z : Nat) : Int) 128 = ((z % 128 : Nat) : Int) from rfl)) rfl ?_
    refine WL.val (Val.add (z := ((z % 128 + 128 : Nat) : Int)) rfl rfl (by rw [wrap_u64_eq]; omega)) rfl ?_
    refine WL.val (Val.convert (z := ((z % 128 + 128 : Nat) : Int)) rfl (by rw [wrap_u8_eq]; omega)) rfl ?_
    (refine WL.buildSlice (by with_unfolding_all exact rfl) rfl (by with_unfolding_all exact rfl) rfl ?_; intro _)
    refine WL.nApp ?_
    rename_i g
    refine WL.freezeBox (xs := [.int .u8 ((z % 128 + 128 : Nat) : Int)]) 2 rfl fun I2 hI2 hA => ?_
    refine WL.appB 1 rfl rfl rfl (litByt hA (by omega)) rfl (by simp; omega) rfl fun aa cc => ?_
    refine WL.nSet ?_
    refine WL.val (Val.assignS rfl) rfl ?_
    refine WL.nil ?_
    refine WX.thenC ?_
    refine WC.region ?_
    refine WL.val (Val.moveI rfl) rfl ?_
    refine WL.val (Val.quo rfl rfl (by decide) (show IntKind.u64.wrap (Int.tdiv ((z : Nat) : Int) 128) = ((z / 128 : Nat) : Int) by rw [wrap_u64_eq]; show ((z / 128 : Nat) : Int) % _ = _; omega)) rfl ?_
    refine WL.val (Val.assignI rfl) rfl ?_
    refine WL.nil ?_
    refine WX.inNormal ?_
    exact WX.thenK (WK.round (z / 128) (by omega) ⟨aa, cc, bs' ++ [fb (z % 128 + 128)], hI.trans hI2, by omega, rfl, rfl, rfl, by simp; omega, by rw [← heq]; simp⟩)
theorem rInts (l : List Int) (v : Value) (I : Mem) (hv : LsAt Int.rep I l v) (hl : (eInts l).length ≤ 1099511627776) : Ctr Tryd.prog 16 [v] I [] (OwnB (eInts l)) := by
  have hll := eInts_len l
  obtain ⟨a1, c1, rfl⟩ := hv.sl
  refine Ctr.intro Tryd.func16 rfl rfl rfl fun E F => ?_
  refine WC.seq ?_
  refine WC.region ?_
  refine WL.val (Val.assignS rfl) rfl ?_
  refine WL.nil ?_
  refine WX.thenC ?_
  refine WC.seq ?_
  refine WC.region ?_
  refine WL.val (Val.assignS rfl) rfl ?_
  refine WL.nil ?_
  refine WX.thenC ?_
  refine WC.seq ?_
  refine WC.seq ?_
  refine WC.region ?_
  refine WL.val (Val.assignI rfl) rfl ?_
  refine WL.nil ?_
  refine WX.thenC ?_
  refine WC.block ?_
  refine WC.slNil 5 1 ?_
  refine WC.nApp ?_
  refine WC.loop (fun n ρ' I' L' => ∃ k : Nat, ∃ a cap, n = l.length - k ∧ k ≤ l.length ∧ I.le I' ∧ ρ' 0 = .slice a1 l.length c1 ∧ ρ' 3 = .slice a (eInts (l.take k)).length cap ∧ ρ' 4 = vi k ∧ L' = [F, sl 5 1 (.slice a (eInts (l.take k)).length cap) (eInts (l.take k)).length ((eInts (l.take k)).map byt)])
    l.length ⟨0, none, 0, rfl, by omega, Mem.le.refl _, rfl, rfl, rfl, by simp [eInts]⟩ ?_
  rintro n ρ' I' L' ⟨k, a, cap, rfl, hk, hI, h0, h3, h4, rfl⟩
  rw [← upd_self h4, ← upd_self h3, ← upd_self h0]
  clear h4 h3 h0
  by_cases hkn : k < l.length
  · obtain ⟨b, off, cap', cs, he, ⟨rfl, hi⟩, hA⟩ := (hv.mono hI).get k hkn
    cases he
    have htk : eInts (l.take (k + 1)) = eInts (l.take k) ++ eInt l[k] := by
      rw [List.take_succ_eq_append_getElem hkn, eInts_app, eInts_one]
    have hbd : (eInts (l.take k) ++ eInt l[k]).length ≤ 1099511627776 := by
      have : eInts l = eInts (l.take (k + 1)) ++ eInts (l.drop (k + 1)) := by
        have := congrArg eInts (List.take_append_drop (k + 1) l).symm
        rw [this, eInts_app]
      rw [this, htk] at hl
      simp only [List.length_append] at hl ⊢
      omega
    refine WC.seq ?_
    refine WC.seq ?_
    refine WC.region ?_
    refine WL.val (Val.moveI rfl) rfl ?_
    refine WL.val (Val.moveS rfl) rfl ?_
    refine WL.val (Val.len rfl) rfl ?_
    refine WL.val (Val.lss rfl rfl (decide_eq_true (by omega))) rfl ?_
    refine WL.nil ?_
    refine WX.thenC ?_
    refine WC.condT rfl ?_
    refine WC.skip ?_
    refine WX.thenC ?_
    refine WC.seq ?_
    refine WC.block ?_
    refine WC.region ?_
    refine WL.val (Val.moveS rfl) rfl ?_
    refine WL.val (Val.moveS rfl) rfl ?_
    refine WL.val (Val.moveI rfl) rfl ?_
    refine WL.val (Val.indexAddr rfl rfl (by omega) (by omega)) rfl ?_
    refine WL.val (Val.loadS rfl (Rd.imm (by assumption))) rfl ?_
    refine WL.callF rfl rfl (rInt l[k] _ hi).frzB rfl fun aa cc I2 hI2 hB => ?_
    refine WL.appB 1 rfl rfl rfl hB rfl hbd rfl fun aa2 cc2 => ?_
    refine WL.nSet ?_
    refine WL.val (Val.assignS rfl) rfl ?_
    refine WL.nil ?_
    refine WX.inNormal ?_
    refine WX.thenC ?_
    refine WC.region ?_
    refine WL.val (Val.moveI rfl) rfl ?_
    refine WL.val (Val.add rfl rfl (wrap_i64 (by omega) (by omega))) rfl ?_
    refine WL.val (Val.assignI rfl) rfl ?_
    refine WL.nil ?_
    exact WX.thenK (WK.round (l.length - (k + 1)) (by omega) ⟨k + 1, aa2, cc2, rfl, by omega, hI.trans hI2, rfl, by rw [htk]; rfl, rfl, by rw [htk]⟩)
  · skip
    refine WC.seq ?_
    refine WC.seq ?_
    refine WC.region ?_
    refine WL.val (Val.moveI rfl) rfl ?_
    refine WL.val (Val.moveS rfl) rfl ?_
    refine WL.val (Val.len rfl) rfl ?_
    refine WL.val (Val.lss rfl rfl (decide_eq_false (by omega))) rfl ?_
    refine WL.nil ?_
    refine WX.thenC ?_
    refine WC.condF rfl ?_
    refine WC.exit ?_
    refine WX.thenExit ?_
    refine WX.thenExit ?_
    refine WX.inHit ?_
    refine WX.thenC ?_
    refine WC.seq ?_
    refine WC.region ?_
    refine WL.val (Val.moveS rfl) rfl ?_
    refine WL.val (Val.assignS rfl) rfl ?_
    refine WL.nil ?_
    refine WX.thenC ?_
    refine WC.ret ?_
    apply WX.doneP (ks := [0])
    case hres => exact RunRes.r1 rfl (ResIs.tmpS rfl)
    case hI => first | exact Mem.le.refl _ | assumption
    have : k = l.length := by omega
    show [_] = [_]
    rw [this, List.take_length]
theorem rText (v : Value) (t : Bs) (I : Mem) (hv : Byt I v t) (hl : (tw t).length ≤ 1099511627776) : Ctr Tryd.prog 94 [v] I [] (OwnB (tw t)) := by
  have hll : (tw t).length = (eInt t.length).length + t.length := by simp [tw]
  obtain ⟨a1, c1, rfl, hc⟩ := SlAt.len hv
  refine Ctr.intro Tryd.func94 rfl rfl rfl fun E F => ?_
  refine WC.seq ?_
  refine WC.region ?_
  refine WL.val (Val.assignS rfl) rfl ?_
  refine WL.nil ?_
  refine WX.thenC ?_
  refine WC.seq ?_
  refine WC.region ?_
  refine WL.val (Val.moveS rfl) rfl ?_
  refine WL.val (Val.len rfl) rfl ?_
  refine WL.callB rfl rfl (rInt t.length _ ⟨by omega, by omega⟩) rfl fun aa cc I2 hI2 => ?_
  refine WL.nApp ?_
  refine WL.val (Val.moveS rfl) rfl ?_
  refine WL.appB 1 rfl rfl rfl (hv.mono hI2) rfl hl rfl fun aa2 cc2 => ?_
  refine WL.nSet ?_
  refine WL.val (Val.assignS rfl) rfl ?_
  refine WL.nil ?_
  refine WX.thenC ?_
  refine WC.ret ?_
  apply WX.doneP (ks := [0])
  case hres => exact RunRes.r1 rfl (ResIs.tmpS rfl)
  case hI => first | exact Mem.le.refl _ | assumption
  rfl
theorem lcolor (c : Col) (I : Mem) : Ctr Tryd.prog 87 [.agg c.cs.toArray] I [] (OwnB c.w) := by
  refine Ctr.intro Tryd.func87 rfl rfl rfl fun E F => ?_
  refine WC.seq ?_
  refine WC.region ?_
  (refine WL.boxA rfl rfl ?_; intro _)
  refine WL.nApp ?_
  refine WL.val (Val.assignS rfl) rfl ?_
  refine WL.nil ?_
  refine WX.thenC ?_
  refine WC.seq ?_
  refine WC.region ?_
  rename_i g
  refine WL.freezeBox (xs := c.cs) 1 rfl fun I1 hI1 hA => ?_
  refine WL.val (Val.sliceA rfl (.none _) (.none _) (by decide) (by decide)) rfl ?_
  refine WL.callB rfl rfl (rText _ [c.r, c.g, c.b, c.a] _ ⟨_, _, rfl, by simp [maxLen], .inr ⟨g, 0, rfl, hA⟩⟩ (by simp [tw]; have := eInt4; omega)) rfl fun aa cc I2 hI2 => ?_
  refine WL.nApp ?_
  refine WL.val (Val.assignS rfl) rfl ?_
  refine WL.nil ?_
  refine WX.thenC ?_
  refine WC.ret ?_
  have hI3 := hI1.trans hI2
  apply WX.doneP (ks := [0])
  case hres => exact RunRes.r1 rfl (ResIs.tmpS rfl)
  case hI => first | exact Mem.le.refl _ | assumption
  rfl
theorem mtxB (m : Mtx) (I : Mem) (hp : m.ok) : Ctr Tryd.prog 34 [.agg m.cs.toArray] I [] (OwnB m.w) := by
  have hw : m.w = eInts [m.a, m.b, m.c, m.d, m.e, m.f] := by simp [Mtx.w, eInts]
  have hlen := Mtx.w_len hp
  rw [hw] at hlen ⊢
  refine Ctr.intro Tryd.func34 rfl rfl rfl fun E F => ?_
  refine WC.seq ?_
  refine WC.region ?_
  (refine WL.boxA rfl rfl ?_; intro _)
  refine WL.nApp ?_
  refine WL.val (Val.assignS rfl) rfl ?_
  refine WL.nil ?_
  refine WX.thenC ?_
  refine WC.seq ?_
  refine WC.region ?_
  refine WL.val (Val.fldAddr rfl) rfl ?_
  refine WL.val (Val.loadS rfl (Rd.own1 1 rfl rfl)) rfl ?_
  refine WL.val (Val.fldAddr rfl) rfl ?_
  refine WL.val (Val.loadS rfl (Rd.own1 1 rfl rfl)) rfl ?_
  refine WL.val (Val.fldAddr rfl) rfl ?_
  refine WL.val (Val.loadS rfl (Rd.own1 1 rfl rfl)) rfl ?_
  refine WL.val (Val.fldAddr rfl) rfl ?_
  refine WL.val (Val.loadS rfl (Rd.own1 1 rfl rfl)) rfl ?_
  refine WL.val (Val.fldAddr rfl) rfl ?_
  refine WL.val (Val.loadS rfl (Rd.own1 1 rfl rfl)) rfl ?_
  refine WL.val (Val.fldAddr rfl) rfl ?_
  refine WL.val (Val.loadS rfl (Rd.own1 1 rfl rfl)) rfl ?_
  (refine WL.buildSlice (by with_unfolding_all exact rfl) rfl (by with_unfolding_all exact rfl) rfl ?_; intro _)
  refine WL.nApp ?_
  rename_i g
  refine WL.freezeBox (xs := [vi m.a, vi m.b, vi m.c, vi m.d, vi m.e, vi m.f]) 2 rfl fun I1 hI1 hA => ?_
  refine WL.callB rfl rfl (rInts [m.a, m.b, m.c, m.d, m.e, m.f] (.slice (some ⟨g, 0, none⟩) 6 6) _ (litInts _ hA ⟨hp.1, hp.2.1, hp.2.2.1, hp.2.2.2.1, hp.2.2.2.2.1, hp.2.2.2.2.2, trivial⟩) (by omega)) rfl fun aa cc I2 hI2 => ?_
  refine WL.nApp ?_
  refine WL.val (Val.assignS rfl) rfl ?_
  refine WL.nil ?_
  refine WX.thenC ?_
  refine WC.ret ?_
  have hI3 := hI1.trans hI2
  apply WX.doneP (ks := [1])
  case hres => exact RunRes.r1 rfl (ResIs.tmpS rfl)
  case hI => first | exact Mem.le.refl _ | assumption
  rfl
end Go.Proofs.YtfdeckdongonnaaDoor
