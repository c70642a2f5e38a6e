/-
  Tree, the walks: the document's functions (6): remove.
-/
import Derived.Test.YtfdeckdongonnabM1
import Derived.Test.YtfdeckdongonnabB2
import Derived.Test.YtfdeckdongonnabB3
namespace Go.Tr
open Go.Sl Go.Ls
namespace Nd
def zero : Nd := .mk 0 false []
/-- Remove, as the document has it. -/
def remove (top : Nd) (i : Int) : Nd × Nd × Int × Int × Int :=
  if i = 0 then (top, zero, 0, 0, 30) else match find i top with
  | none => (top, zero, 0, 0, 31)
  | some n => match whr i top with
    | none => (top, zero, 0, 0, 0)
    | some (q, k) => match find q top with
      | none => (top, zero, 0, 0, 0)
      | some p => (with_ q (p.kids.take k.toNat ++ p.kids.drop (k.toNat + 1)) top, n, q, k, 0)
/-- What is asked of a tree, so that what is removed has a parent. -/
def Has (top : Nd) (i : Int) : Prop := i ≠ 0 → ∀ n, find i top = some n → ∃ q, ∃ k : Nat, ∃ m, whr i top = some (q, (k : Int)) ∧ find q top = some m ∧ k < m.kids.length
end Nd
end Go.Tr
namespace Go.Proofs.Ytfdeckdongonnab
open Go.Sl Go.Ls Go.Tr
set_option maxRecDepth 100000
set_option maxHeartbeats 4000000
set_option linter.unusedVariables false
attribute [local irreducible] WC WL WX WK WA WAK Val Ctr RunRes ResIs Rd At sl box pt Exit.then Exit.inBlock bodyPost Code.wp wpList
theorem i64_0 : I64 0 := ⟨by decide, by decide⟩
def RetR (r : Nd × Nd × Int × Int × Int) : Value → Mem → List HP → Prop := fun v I' L' => L' = [] ∧ ∃ kv kw, v = .tuple #[.agg #[vi r.1.id, .bool r.1.grp, kv], .agg #[vi r.2.1.id, .bool r.2.1.grp, kw], vi r.2.2.1, vi r.2.2.2.1, vi r.2.2.2.2] ∧ LsAt Nd.Rp I' r.1.kids kv ∧ LsAt Nd.Rp I' r.2.1.kids kw ∧ I64 r.2.1.id
theorem rRemove (top : Nd) (tv : Value) (i : Int) (I : Mem) (hbt : top.size ≤ 1000000000) (hit : I64 top.id) (htv : LsAt Nd.Rp I top.kids tv) (hhas : Nd.Has top i) :
    Ctr Try.prog 51 [.agg #[vi top.id, .bool top.grp, tv], vi i] I [] (RetR (Nd.remove top i)) := by
  replace hbt : top.size ≤ 1099511627776 ∧ top.size ≤ 1000000000 := ⟨by omega, hbt⟩
  obtain ⟨hbt, hbt1⟩ := hbt
  have htv0 := htv
  obtain ⟨a9, c9, rfl⟩ := htv.sl
  refine Ctr.intro Try.func51 rfl rfl rfl fun E F => ?_
  by_cases h0 : i = 0
  · skip
    refine WC.seq ?_
    refine WC.region ?_
    (refine WL.boxA rfl rfl ?_; intro _)
    refine WL.nApp ?_
    (refine WL.alloc rfl ?_; intro _)
    refine WL.nApp ?_
    (refine WL.alloc rfl ?_; intro _)
    refine WL.nApp ?_
    refine WL.val (Val.assignI rfl) rfl ?_
    refine WL.val (Val.assignI rfl) rfl ?_
    refine WL.val (Val.assignI rfl) rfl ?_
    refine WL.nil ?_
    refine WX.thenC ?_
    refine WC.seq ?_
    refine WC.seq ?_
    refine WC.region ?_
    refine WL.val (Val.moveI rfl) rfl ?_
    refine WL.val (Val.eql rfl rfl (beq_iff_eq.2 (by omega))) rfl ?_
    refine WL.nil ?_
    refine WX.thenC ?_
    refine WC.condT rfl ?_
    refine WC.seq ?_
    refine WC.region ?_
    refine WL.val (Val.ldO 1 rfl rfl rfl) rfl ?_
    refine WL.val (Val.build0) rfl ?_
    refine WL.stA 2 rfl rfl rfl rfl ?_
    refine WL.stA 3 rfl rfl rfl rfl ?_
    refine WL.val (Val.assignI rfl) rfl ?_
    refine WL.val (Val.assignI rfl) rfl ?_
    refine WL.val (Val.assignI rfl) rfl ?_
    refine WL.nil ?_
    refine WX.thenC ?_
    refine WC.ret ?_
    refine WX.thenRet ?_
    apply WX.doneP (ks := [])
    case hres => exact RunRes.r5 rfl (ResIs.cellL 2 rfl rfl rfl) (ResIs.cellL 3 rfl rfl rfl) (ResIs.tmpI rfl) (ResIs.tmpI rfl) (ResIs.tmpI rfl)
    case hI => first | exact Mem.le.refl _ | assumption
    have hrem : Nd.remove top i = (top, Nd.zero, 0, 0, 30) := by rw [Nd.remove, if_pos h0]
    rw [hrem]
    exact ⟨rfl, _, _, rfl, htv, LsAt.nil _ _, i64_0⟩
  refine WC.seq ?_
  refine WC.region ?_
  (refine WL.boxA rfl rfl ?_; intro _)
  refine WL.nApp ?_
  (refine WL.alloc rfl ?_; intro _)
  refine WL.nApp ?_
  (refine WL.alloc rfl ?_; intro _)
  refine WL.nApp ?_
  refine WL.val (Val.assignI rfl) rfl ?_
  refine WL.val (Val.assignI rfl) rfl ?_
  refine WL.val (Val.assignI rfl) rfl ?_
  refine WL.nil ?_
  refine WX.thenC ?_
  refine WC.seq ?_
  refine WC.seq ?_
  refine WC.region ?_
  refine WL.val (Val.moveI rfl) rfl ?_
  refine WL.val (Val.eql rfl rfl (beq_eq_false_iff_ne.2 (by omega))) rfl ?_
  refine WL.nil ?_
  refine WX.thenC ?_
  refine WC.condF rfl ?_
  refine WC.skip ?_
  refine WX.thenC ?_
  refine WC.seq ?_
  refine WC.region ?_
  refine WL.val (Val.ldO 1 rfl rfl rfl) rfl ?_
  refine WL.val (Val.moveI rfl) rfl ?_
  refine WL.callS rfl rfl (rFind i _ top (Nat.le_refl _) _ _ hbt hit htv) rfl ?_
  rintro _ (⟨n, nv, hn, rfl, hin, hnk⟩ | ⟨hn, rfl⟩)
  case inr =>
    refine WL.val (Val.moveT rfl) rfl ?_
    refine WL.val (Val.extractA rfl rfl) rfl ?_
    refine WL.val (Val.extractB rfl rfl) rfl ?_
    (refine WL.alloc rfl ?_; intro _)
    refine WL.nApp ?_
    refine WL.stA 4 rfl rfl rfl rfl ?_
    refine WL.val (Val.assignB rfl) rfl ?_
    refine WL.nil ?_
    refine WX.thenC ?_
    refine WC.seq ?_
    refine WC.seq ?_
    refine WC.region ?_
    refine WL.val (Val.moveB rfl) rfl ?_
    refine WL.val (Val.not rfl) rfl ?_
    refine WL.nil ?_
    refine WX.thenC ?_
    refine WC.condT rfl ?_
    refine WC.seq ?_
    refine WC.region ?_
    refine WL.val (Val.ldO 1 rfl rfl rfl) rfl ?_
    refine WL.val (Val.build0) rfl ?_
    refine WL.stA 2 rfl rfl rfl rfl ?_
    refine WL.stA 3 rfl rfl rfl rfl ?_
    refine WL.val (Val.assignI rfl) rfl ?_
    refine WL.val (Val.assignI rfl) rfl ?_
    refine WL.val (Val.assignI rfl) rfl ?_
    refine WL.nil ?_
    refine WX.thenC ?_
    refine WC.ret ?_
    refine WX.thenRet ?_
    apply WX.doneP (ks := [])
    case hres => exact RunRes.r5 rfl (ResIs.cellL 2 rfl rfl rfl) (ResIs.cellL 3 rfl rfl rfl) (ResIs.tmpI rfl) (ResIs.tmpI rfl) (ResIs.tmpI rfl)
    case hI => first | exact Mem.le.refl _ | assumption
    have hrem : Nd.remove top i = (top, Nd.zero, 0, 0, 31) := by rw [Nd.remove, if_neg h0, hn]
    rw [hrem]
    exact ⟨rfl, _, _, rfl, htv, LsAt.nil _ _, i64_0⟩
  have hnk0 := hnk
  obtain ⟨a4, c4, rfl⟩ := hnk.sl
  obtain ⟨q, k, p, hwh, hfp, hkp⟩ := hhas h0 n hn
  refine WL.val (Val.moveT rfl) rfl ?_
  refine WL.val (Val.extractA rfl rfl) rfl ?_
  refine WL.val (Val.extractB rfl rfl) rfl ?_
  (refine WL.alloc rfl ?_; intro _)
  refine WL.nApp ?_
  refine WL.stA 4 rfl rfl rfl rfl ?_
  refine WL.val (Val.assignB rfl) rfl ?_
  refine WL.nil ?_
  refine WX.thenC ?_
  refine WC.seq ?_
  refine WC.seq ?_
  refine WC.region ?_
  refine WL.val (Val.moveB rfl) rfl ?_
  refine WL.val (Val.not rfl) rfl ?_
  refine WL.nil ?_
  refine WX.thenC ?_
  refine WC.condF rfl ?_
  refine WC.skip ?_
  refine WX.thenC ?_
  refine WC.seq ?_
  refine WC.region ?_
  refine WL.val (Val.ldO 1 rfl rfl rfl) rfl ?_
  refine WL.val (Val.moveI rfl) rfl ?_
  refine WL.callS rfl rfl (rWhere i _ top (Nat.le_refl _) _ _ hbt hit htv) rfl ?_
  rintro _ (⟨q', k', he, rfl⟩ | ⟨he, rfl⟩)
  case inr => rw [hwh] at he; cases he
  rw [hwh] at he
  injection he with he
  injection he with he1 he2
  subst he1 he2
  refine WL.val (Val.moveT rfl) rfl ?_
  refine WL.val (Val.extractI rfl rfl) rfl ?_
  refine WL.val (Val.extractI rfl rfl) rfl ?_
  refine WL.val (Val.extractB rfl rfl) rfl ?_
  refine WL.val (Val.assignI rfl) rfl ?_
  refine WL.val (Val.assignI rfl) rfl ?_
  refine WL.val (Val.assignB rfl) rfl ?_
  refine WL.nil ?_
  refine WX.thenC ?_
  refine WC.seq ?_
  refine WC.region ?_
  refine WL.val (Val.ldO 1 rfl rfl rfl) rfl ?_
  refine WL.val (Val.moveI rfl) rfl ?_
  refine WL.callS rfl rfl (rFind q _ top (Nat.le_refl _) _ _ hbt hit htv) rfl ?_
  rintro _ (⟨p', pv, hp, rfl, hip, hpk⟩ | ⟨hp, rfl⟩)
  case inr => rw [hfp] at hp; cases hp
  rw [hfp] at hp
  injection hp with hp
  subst hp
  have hpk0 := hpk
  have hpl := hpk.le
  obtain ⟨a3, c3, rfl⟩ := hpk.sl
  have hps := Nd.find_size q top p hfp
  have hpz := sizes_lt p
  have hpn := Nd.len_le_sizes p.kids
  have hjl : [(p.kids.drop 0).take (k - 0), (p.kids.drop (k + 1)).take (p.kids.length - (k + 1))].flatten = p.kids.take k ++ p.kids.drop (k + 1) := by
    simp only [List.flatten_cons, List.flatten_nil, List.append_nil, List.drop_zero, Nat.sub_zero]
    rw [List.take_of_length_le (l := p.kids.drop (k + 1)) (by rw [List.length_drop]; omega)]
  have hrem : Nd.remove top i = (Nd.with_ q (p.kids.take k ++ p.kids.drop (k + 1)) top, n, q, (k : Int), 0) := by
    rw [Nd.remove, if_neg h0, hn]
    simp only [hwh, hfp, Int.toNat_natCast]
  have hln : (p.kids.take k ++ p.kids.drop (k + 1)).length = p.kids.length - 1 := by
    rw [List.length_append, List.length_take, List.length_drop]; omega
  refine WL.val (Val.moveT rfl) rfl ?_
  refine WL.val (Val.extractA rfl rfl) rfl ?_
  refine WL.val (Val.extractB rfl rfl) rfl ?_
  (refine WL.alloc rfl ?_; intro _)
  refine WL.nApp ?_
  refine WL.stA 5 rfl rfl rfl rfl ?_
  refine WL.val (Val.assignB rfl) rfl ?_
  refine WL.nil ?_
  refine WX.thenC ?_
  refine WC.seq ?_
  refine WC.drawK 999 I [1, 3, 3] rfl (by kernel_rfl) rfl rfl ?_
  refine WA.take 0 rfl (by kernel_rfl) rfl (fun w h => (h.sub [1, 3, 3] rfl)) (Val.ldO 0 rfl rfl rfl) rfl ?_
  refine WA.take 1 rfl (by kernel_rfl) rfl (fun w h => (h.sub [1, 3, 3] rfl)) (Val.moveI rfl) rfl ?_
  refine WA.take 2 rfl (by kernel_rfl) rfl (fun w h => (h.sub [1, 3, 3] rfl)) (Val.fldAddr rfl) rfl ?_
  refine WA.take 3 rfl (by kernel_rfl) rfl (fun w h => (h.sub [1, 3, 3] rfl)) (Val.loadS rfl (Rd.own1 2 rfl rfl)) rfl ?_
  refine WA.take 4 rfl (by kernel_rfl) rfl (fun w h => (h.sub [1, 3, 3] rfl)) (Val.moveI rfl) rfl ?_
  refine WA.take 6 rfl (by kernel_rfl) rfl (fun w h => (h.sub [1, 3, 3] rfl)) (Val.fldAddr rfl) rfl ?_
  refine WA.take 7 rfl (by kernel_rfl) rfl (fun w h => (h.sub [1, 3, 3] rfl)) (Val.loadS rfl (Rd.own1 2 rfl rfl)) rfl ?_
  refine WA.take 8 rfl (by kernel_rfl) rfl (fun w h => (h.sub [1, 3, 3] rfl)) (Val.moveI rfl) rfl ?_
  refine WA.take 9 rfl (by kernel_rfl) rfl (fun w h => (h.sub [1, 3, 3] rfl)) (Val.add rfl rfl (wrap_i64 (by omega) (by omega))) rfl ?_
  refine WA.take 10 rfl (by kernel_rfl) rfl (fun w h => (h.sub [1, 3, 3] rfl)) (Val.fldAddr rfl) rfl ?_
  refine WA.take 11 rfl (by kernel_rfl) rfl (fun w h => (h.sub [1, 3, 3] rfl)) (Val.loadS rfl (Rd.own1 2 rfl rfl)) rfl ?_
  refine WA.take 12 rfl (by kernel_rfl) rfl (fun w h => (h.sub [1, 3, 3] rfl)) (Val.len rfl) rfl ?_
  refine WA.take 17 rfl (by kernel_rfl) rfl (fun w h => (h.sub [1, 3, 3] rfl)) (Val.ldO 1 rfl rfl rfl) rfl ?_
  refine WA.take 18 rfl (by kernel_rfl) rfl (fun w h => (h.sub [1, 3, 3] rfl)) (Val.moveI rfl) rfl ?_
  refine WA.take 19 rfl (by kernel_rfl) rfl (fun w h => (h.sub [1, 3, 3] rfl)) (Val.moveI rfl) rfl ?_
  refine WA.eff1 (i := 5) (by kernel_rfl) rfl rfl ?_
  refine WL.callP [] rfl rfl (rPart p.kids _ 0 k _ hpk (by omega) (by omega) (by omega)) rfl ?_
  rintro v1 I1 _ hI1 ⟨rfl, ha⟩
  have ha0 := ha
  obtain ⟨aa, ca, rfl⟩ := ha.sl
  refine WL.nApp ?_
  refine WL.nil ?_
  refine WK.anyStep (fun w h => (h.sub [1, 3, 3] rfl).less (hI1)) ?_
  refine WA.eff1 (i := 13) (by kernel_rfl) rfl rfl ?_
  refine WL.callP [] rfl rfl (rPart p.kids _ (k + 1) p.kids.length _ (hpk.mono hI1) (by omega) (by omega) (by omega)) rfl ?_
  rintro v2 I2 _ hI2 ⟨rfl, hc⟩
  have hc0 := hc
  obtain ⟨ac, cc, rfl⟩ := hc.sl
  refine WL.nApp ?_
  have hJ2 := hI1.trans hI2
  refine WL.nil ?_
  refine WK.anyStep (fun w h => (h.sub [1, 3, 3] rfl).less (hJ2)) ?_
  replace ha := ha.mono hI2
  refine WA.eff1 (i := 14) (by kernel_rfl) rfl rfl ?_
  (refine WL.buildSlice (by with_unfolding_all exact rfl) rfl (by with_unfolding_all exact rfl) rfl ?_; intro _)
  rename_i gb
  refine WL.nApp ?_
  refine WL.lit (R := Rl) (sz := 1) (l := [(p.kids.drop 0).take (k - 0), (p.kids.drop (k + 1)).take (p.kids.length - (k + 1))]) (css := [[_], [_]]) 6 rfl ⟨⟨_, rfl, ha⟩, ⟨_, rfl, hc⟩, trivial⟩ rfl (show 2 ≤ maxLen by decide) fun I3 hI3 hl => ?_
  have hJ3 := hJ2.trans hI3
  refine WL.nil ?_
  refine WK.anyStep (fun w h => (h.sub [1, 3, 3] rfl).less (hJ3)) ?_
  refine WA.eff1 (i := 15) (by kernel_rfl) rfl rfl ?_
  refine WL.callP [] rfl rfl (rJoin _ _ _ hl (by rw [hjl]; omega)) rfl ?_
  rintro v4 I4 _ hI4 ⟨rfl, hw⟩
  have hJ4 := hJ3.trans hI4
  rw [hjl] at hw
  have hw0 := hw
  obtain ⟨aw, cw, rfl⟩ := hw.sl
  refine WL.nApp ?_
  refine WL.nil ?_
  refine WK.anyStep (fun w h => (h.sub [1, 3, 3] rfl).less (hJ4)) ?_
  refine WA.eff1 (i := 16) (by kernel_rfl) rfl rfl ?_
  refine WL.callP [] rfl rfl (rWith q _ _ top (Nat.le_refl _) _ _ _ hbt hit (htv.mono hJ4) hw) rfl ?_
  rintro v5 I5 _ hI5 ⟨rfl, kw, rfl, hr⟩
  have hJ5 := hJ4.trans hI5
  have hr0 := hr
  obtain ⟨ar, cr, rfl⟩ := hr.sl
  refine WL.nApp ?_
  refine WL.nil ?_
  refine WK.anyStep (fun w h => (h.sub [1, 3, 3] rfl).less (hJ5)) ?_
  refine WA.eff1 (i := 20) (by kernel_rfl) rfl rfl ?_
  refine WL.stA 2 rfl rfl rfl rfl ?_
  refine WL.nil ?_
  refine WK.anyStep (fun w h => (h.sub [1, 3, 3] rfl).less (hJ5)) ?_
  refine WA.eff1 (i := 21) (by kernel_rfl) rfl rfl ?_
  refine WL.stA 3 rfl rfl rfl rfl ?_
  refine WL.nil ?_
  refine WK.anyStep (fun w h => (h.sub [1, 3, 3] rfl).less (hJ5)) ?_
  refine WA.take 22 rfl (by kernel_rfl) rfl (fun w h => (h.sub [1, 3, 3] rfl).less (hJ5)) (Val.assignI rfl) rfl ?_
  refine WA.take 23 rfl (by kernel_rfl) rfl (fun w h => (h.sub [1, 3, 3] rfl).less (hJ5)) (Val.assignI rfl) rfl ?_
  refine WA.take 24 rfl (by kernel_rfl) rfl (fun w h => (h.sub [1, 3, 3] rfl).less (hJ5)) (Val.assignI rfl) rfl ?_
  refine WA.done (by kernel_rfl) ?_
  refine WX.thenC ?_
  refine WC.ret ?_
  apply WX.doneP (ks := [])
  case hres => exact RunRes.r5 rfl (ResIs.cellL 2 rfl rfl rfl) (ResIs.cellL 3 rfl rfl rfl) (ResIs.tmpI rfl) (ResIs.tmpI rfl) (ResIs.tmpI rfl)
  case hI => first | exact Mem.le.refl _ | assumption
  rw [hrem]
  exact ⟨rfl, _, _, rfl, hr, hnk.mono hJ5, hin⟩
end Go.Proofs.Ytfdeckdongonnab

/-
  Tree, the walks: the document's functions (7): move.
-/

namespace Go.Tr
open Go.Sl Go.Ls
namespace Nd
/-- Move, as the document has it. -/
def move (top : Nd) (i parent index : Int) : Nd × Int :=
  if (remove top i).2.2.2.2 ≠ 0 then (top, (remove top i).2.2.2.2) else match find parent top with
  | none => (top, 31)
  | some p => if p.grp = false then (top, 33) else if (find parent (remove top i).2.1).isSome = true then (top, 34)
    else if index < 0 ∨ (((find parent (remove top i).1).getD zero).kids.length : Int) < index then (top, 30)
    else if 64 < depth parent (remove top i).1 + (remove top i).2.1.height then (top, 35)
    else (with_ parent (((find parent (remove top i).1).getD zero).kids.take index.toNat ++ ((remove top i).2.1 :: ((find parent (remove top i).1).getD zero).kids.drop index.toNat)) (remove top i).1, 0)
theorem remove_size (top : Nd) (i : Int) : (remove top i).2.1.size ≤ top.size := by
  have h1 : zero.size ≤ top.size := by have := size_pos top; simp only [zero, size, sizes]; omega
  rw [remove]
  split
  · exact h1
  · split
    · exact h1
    · rename_i n hn
      split
      · exact h1
      · split
        · exact h1
        · exact find_size _ _ _ hn
theorem remove_id (top : Nd) (i : Int) : (remove top i).1.id = top.id ∧ (remove top i).1.grp = top.grp := by
  rw [remove]
  split
  · exact ⟨rfl, rfl⟩
  · split
    · exact ⟨rfl, rfl⟩
    · split
      · exact ⟨rfl, rfl⟩
      · split
        · exact ⟨rfl, rfl⟩
        · exact with_id _ _ _
end Nd
end Go.Tr
namespace Go.Proofs.Ytfdeckdongonnab
open Go.Sl Go.Ls Go.Tr
set_option maxRecDepth 100000
set_option maxHeartbeats 4000000
set_option linter.unusedVariables false
attribute [local irreducible] WC WL WX WK WA WAK Val Ctr RunRes ResIs Rd At sl box pt Exit.then Exit.inBlock bodyPost Code.wp wpList
theorem fnd_getD {I : Mem} {r : Option Nd} {v : Value} (h : Fnd I r v) : ∃ kv, v = .tuple #[.agg #[vi (r.getD Nd.zero).id, .bool (r.getD Nd.zero).grp, kv], .bool r.isSome] ∧ I64 (r.getD Nd.zero).id ∧ LsAt Nd.Rp I (r.getD Nd.zero).kids kv := by
  rcases h with ⟨m, kv, rfl, rfl, h1, h2⟩ | ⟨rfl, rfl⟩
  · exact ⟨kv, rfl, h1, h2⟩
  · exact ⟨_, rfl, i64_0, LsAt.nil _ _⟩
theorem rMove (top : Nd) (tv : Value) (i parent index : Int) (I : Mem) (hbt : top.size ≤ 1000000000) (hit : I64 top.id) (htv : LsAt Nd.Rp I top.kids tv) (hhas : Nd.Has top i) (hbw : (Nd.remove top i).1.size ≤ 1000000000) :
    Ctr Try.prog 52 [.agg #[vi top.id, .bool top.grp, tv], vi i, vi parent, vi index] I [] (RetE (Nd.move top i parent index)) := by
  have hmv : ∀ x, Nd.remove top i = x → Nd.move top i parent index = if x.2.2.2.2 ≠ 0 then (top, x.2.2.2.2) else match Nd.find parent top with
      | none => (top, 31)
      | some p => if p.grp = false then (top, 33) else if (Nd.find parent x.2.1).isSome = true then (top, 34)
        else if index < 0 ∨ (((Nd.find parent x.1).getD Nd.zero).kids.length : Int) < index then (top, 30)
        else if 64 < Nd.depth parent x.1 + x.2.1.height then (top, 35)
        else (Nd.with_ parent (((Nd.find parent x.1).getD Nd.zero).kids.take index.toNat ++ (x.2.1 :: ((Nd.find parent x.1).getD Nd.zero).kids.drop index.toNat)) x.1, 0) := by
    intro x hx
    subst hx
    rfl
  have hrs := Nd.remove_size top i
  have hri := Nd.remove_id top i
  replace hbt : top.size ≤ 1099511627776 ∧ top.size ≤ 1000000000 := ⟨by omega, hbt⟩
  obtain ⟨hbt, hbt1⟩ := hbt
  have htv0 := htv
  obtain ⟨a9, c9, rfl⟩ := htv.sl
  have hcall := rRemove top _ i I hbt1 hit htv hhas
  generalize hx : Nd.remove top i = x at *
  have hmv := hmv x rfl
  obtain ⟨wo, n, q0, k0, e⟩ := x
  simp only at hmv hbw hrs hri
  have hiw : I64 wo.id := by rw [hri.1]; exact hit
  have hdw := Nd.depth_le parent wo
  have hhn := Nd.height_le n
  refine Ctr.intro Try.func52 rfl rfl rfl fun E F => ?_
  refine WC.seq ?_
  refine WC.region ?_
  (refine WL.boxA rfl rfl ?_; intro _)
  refine WL.nApp ?_
  (refine WL.alloc rfl ?_; intro _)
  refine WL.nApp ?_
  refine WL.val (Val.assignI rfl) rfl ?_
  refine WL.nil ?_
  refine WX.thenC ?_
  refine WC.seq ?_
  refine WC.region ?_
  refine WL.val (Val.ldO 1 rfl rfl rfl) rfl ?_
  refine WL.val (Val.moveI rfl) rfl ?_
  refine WL.callP [] rfl rfl hcall rfl ?_
  rintro v Ib _ hIb ⟨rfl, wv, nv, rfl, hwk, hnk, hin⟩
  simp only at hwk hnk hin
  have hwk0 := hwk
  have hnk0 := hnk
  obtain ⟨a8, c8, rfl⟩ := hwk.sl
  obtain ⟨a4, c4, rfl⟩ := hnk.sl
  have htv1 := htv.mono hIb
  by_cases he : e = 0
  case neg =>
    rw [if_pos he] at hmv
    refine WL.nApp ?_
    refine WL.val (Val.moveT rfl) rfl ?_
    refine WL.val (Val.extractA rfl rfl) rfl ?_
    refine WL.val (Val.extractA rfl rfl) rfl ?_
    refine WL.val (Val.extractI rfl rfl) rfl ?_
    refine WL.val (Val.extractI rfl rfl) rfl ?_
    refine WL.val (Val.extractI rfl rfl) rfl ?_
    (refine WL.alloc rfl ?_; intro _)
    refine WL.nApp ?_
    (refine WL.alloc rfl ?_; intro _)
    refine WL.nApp ?_
    refine WL.stA 3 rfl rfl rfl rfl ?_
    refine WL.stA 4 rfl rfl rfl rfl ?_
    refine WL.val (Val.assignI rfl) rfl ?_
    refine WL.val (Val.assignI rfl) rfl ?_
    refine WL.val (Val.assignI rfl) rfl ?_
    refine WL.nil ?_
    refine WX.thenC ?_
    refine WC.seq ?_
    refine WC.seq ?_
    refine WC.region ?_
    refine WL.val (Val.moveI rfl) rfl ?_
    refine WL.val (Val.neq rfl rfl (bne_iff_ne.2 (by omega))) rfl ?_
    refine WL.nil ?_
    refine WX.thenC ?_
    refine WC.condT rfl ?_
    refine WC.seq ?_
    refine WC.region ?_
    refine WL.val (Val.ldO 1 rfl rfl rfl) rfl ?_
    refine WL.val (Val.moveI rfl) rfl ?_
    refine WL.stA 2 rfl rfl rfl rfl ?_
    refine WL.val (Val.assignI rfl) rfl ?_
    refine WL.nil ?_
    refine WX.thenC ?_
    refine WC.ret ?_
    refine WX.thenRet ?_
    apply WX.doneP (ks := [])
    case hres => exact RunRes.r2 rfl (ResIs.cellL 2 rfl rfl rfl) (ResIs.tmpI rfl)
    case hI => first | exact Mem.le.refl _ | assumption
    rw [hmv]
    exact ⟨rfl, _, rfl, htv1⟩
  subst he
  rw [if_neg (by decide)] at hmv
  have hnd : Nd.Rp Ib n [vi n.id, .bool n.grp, .slice a4 n.kids.length c4] := Nd.rep_iff.2 ⟨hin, _, rfl, hnk⟩
  refine WL.nApp ?_
  refine WL.val (Val.moveT rfl) rfl ?_
  refine WL.val (Val.extractA rfl rfl) rfl ?_
  refine WL.val (Val.extractA rfl rfl) rfl ?_
  refine WL.val (Val.extractI rfl rfl) rfl ?_
  refine WL.val (Val.extractI rfl rfl) rfl ?_
  refine WL.val (Val.extractI rfl rfl) rfl ?_
  (refine WL.alloc rfl ?_; intro _)
  refine WL.nApp ?_
  (refine WL.alloc rfl ?_; intro _)
  refine WL.nApp ?_
  refine WL.stA 3 rfl rfl rfl rfl ?_
  refine WL.stA 4 rfl rfl rfl rfl ?_
  refine WL.val (Val.assignI rfl) rfl ?_
  refine WL.val (Val.assignI rfl) rfl ?_
  refine WL.val (Val.assignI rfl) rfl ?_
  refine WL.nil ?_
  refine WX.thenC ?_
  refine WC.seq ?_
  refine WC.seq ?_
  refine WC.region ?_
  refine WL.val (Val.moveI rfl) rfl ?_
  refine WL.val (Val.neq rfl rfl rfl) rfl ?_
  refine WL.nil ?_
  refine WX.thenC ?_
  refine WC.condF rfl ?_
  refine WC.skip ?_
  refine WX.thenC ?_
  refine WC.seq ?_
  refine WC.region ?_
  refine WL.val (Val.ldO 1 rfl rfl rfl) rfl ?_
  refine WL.val (Val.moveI rfl) rfl ?_
  refine WL.callS rfl rfl (rFind parent _ top (Nat.le_refl _) _ _ hbt hit htv1) rfl ?_
  rintro _ (⟨p, pv, hp, rfl, hip, hpk⟩ | ⟨hp, rfl⟩)
  case inr =>
    refine WL.val (Val.moveT rfl) rfl ?_
    refine WL.val (Val.extractA rfl rfl) rfl ?_
    refine WL.val (Val.extractB rfl rfl) rfl ?_
    (refine WL.alloc rfl ?_; intro _)
    refine WL.nApp ?_
    refine WL.stA 5 rfl rfl rfl rfl ?_
    refine WL.val (Val.assignB rfl) rfl ?_
    refine WL.nil ?_
    refine WX.thenC ?_
    refine WC.seq ?_
    refine WC.seq ?_
    refine WC.region ?_
    refine WL.val (Val.moveB rfl) rfl ?_
    refine WL.val (Val.not rfl) rfl ?_
    refine WL.nil ?_
    refine WX.thenC ?_
    refine WC.condT rfl ?_
    refine WC.seq ?_
    refine WC.region ?_
    refine WL.val (Val.ldO 1 rfl rfl rfl) rfl ?_
    refine WL.stA 2 rfl rfl rfl rfl ?_
    refine WL.val (Val.assignI rfl) rfl ?_
    refine WL.nil ?_
    refine WX.thenC ?_
    refine WC.ret ?_
    refine WX.thenRet ?_
    apply WX.doneP (ks := [])
    case hres => exact RunRes.r2 rfl (ResIs.cellL 2 rfl rfl rfl) (ResIs.tmpI rfl)
    case hI => first | exact Mem.le.refl _ | assumption
    rw [hmv, hp]
    exact ⟨rfl, _, rfl, htv1⟩
  have hpk0 := hpk
  obtain ⟨a3, c3, rfl⟩ := hpk.sl
  rw [hp] at hmv
  simp only at hmv
  cases hg : p.grp
  · skip
    refine WL.val (Val.moveT rfl) rfl ?_
    refine WL.val (Val.extractA rfl rfl) rfl ?_
    refine WL.val (Val.extractB rfl rfl) rfl ?_
    (refine WL.alloc rfl ?_; intro _)
    refine WL.nApp ?_
    refine WL.stA 5 rfl rfl rfl rfl ?_
    refine WL.val (Val.assignB rfl) rfl ?_
    refine WL.nil ?_
    refine WX.thenC ?_
    refine WC.seq ?_
    refine WC.seq ?_
    refine WC.region ?_
    refine WL.val (Val.moveB rfl) rfl ?_
    refine WL.val (Val.not rfl) rfl ?_
    refine WL.nil ?_
    refine WX.thenC ?_
    refine WC.condF rfl ?_
    refine WC.skip ?_
    refine WX.thenC ?_
    refine WC.seq ?_
    refine WC.seq ?_
    refine WC.region ?_
    refine WL.val (Val.fldAddr rfl) rfl ?_
    refine WL.val (Val.loadS rfl (Rd.own1 5 rfl rfl)) rfl ?_
    refine WL.val (Val.not rfl) rfl ?_
    refine WL.nil ?_
    refine WX.thenC ?_
    refine WC.condT rfl ?_
    refine WC.seq ?_
    refine WC.region ?_
    refine WL.val (Val.ldO 1 rfl rfl rfl) rfl ?_
    refine WL.stA 2 rfl rfl rfl rfl ?_
    refine WL.val (Val.assignI rfl) rfl ?_
    refine WL.nil ?_
    refine WX.thenC ?_
    refine WC.ret ?_
    refine WX.thenRet ?_
    apply WX.doneP (ks := [])
    case hres => exact RunRes.r2 rfl (ResIs.cellL 2 rfl rfl rfl) (ResIs.tmpI rfl)
    case hI => first | exact Mem.le.refl _ | assumption
    rw [hmv, if_pos hg]
    exact ⟨rfl, _, rfl, htv1⟩
  rw [hg, if_neg (by decide)] at hmv
  refine WL.val (Val.moveT rfl) rfl ?_
  refine WL.val (Val.extractA rfl rfl) rfl ?_
  refine WL.val (Val.extractB rfl rfl) rfl ?_
  (refine WL.alloc rfl ?_; intro _)
  refine WL.nApp ?_
  refine WL.stA 5 rfl rfl rfl rfl ?_
  refine WL.val (Val.assignB rfl) rfl ?_
  refine WL.nil ?_
  refine WX.thenC ?_
  refine WC.seq ?_
  refine WC.seq ?_
  refine WC.region ?_
  refine WL.val (Val.moveB rfl) rfl ?_
  refine WL.val (Val.not rfl) rfl ?_
  refine WL.nil ?_
  refine WX.thenC ?_
  refine WC.condF rfl ?_
  refine WC.skip ?_
  refine WX.thenC ?_
  refine WC.seq ?_
  refine WC.seq ?_
  refine WC.region ?_
  refine WL.val (Val.fldAddr rfl) rfl ?_
  refine WL.val (Val.loadS rfl (Rd.own1 5 rfl rfl)) rfl ?_
  refine WL.val (Val.not rfl) rfl ?_
  refine WL.nil ?_
  refine WX.thenC ?_
  refine WC.condF rfl ?_
  refine WC.skip ?_
  refine WX.thenC ?_
  refine WC.seq ?_
  refine WC.seq ?_
  refine WC.region ?_
  refine WL.val (Val.ldO 4 rfl rfl rfl) rfl ?_
  refine WL.val (Val.moveI rfl) rfl ?_
  refine WL.callS rfl rfl (rHas parent n _ _ (by omega) hin hnk) rfl ?_
  rintro _ rfl
  cases h34 : (Nd.find parent n).isSome
  case true =>
    refine WL.nil ?_
    refine WX.thenC ?_
    refine WC.condT rfl ?_
    refine WC.seq ?_
    refine WC.region ?_
    refine WL.val (Val.ldO 1 rfl rfl rfl) rfl ?_
    refine WL.stA 2 rfl rfl rfl rfl ?_
    refine WL.val (Val.assignI rfl) rfl ?_
    refine WL.nil ?_
    refine WX.thenC ?_
    refine WC.ret ?_
    refine WX.thenRet ?_
    apply WX.doneP (ks := [])
    case hres => exact RunRes.r2 rfl (ResIs.cellL 2 rfl rfl rfl) (ResIs.tmpI rfl)
    case hI => first | exact Mem.le.refl _ | assumption
    rw [hmv, if_pos h34]
    exact ⟨rfl, _, rfl, htv1⟩
  rw [h34, if_neg (by decide)] at hmv
  refine WL.nil ?_
  refine WX.thenC ?_
  refine WC.condF rfl ?_
  refine WC.skip ?_
  refine WX.thenC ?_
  refine WC.seq ?_
  refine WC.region ?_
  refine WL.val (Val.ldO 3 rfl rfl rfl) rfl ?_
  refine WL.val (Val.moveI rfl) rfl ?_
  refine WL.callS rfl rfl (rFind parent _ wo (Nat.le_refl _) _ _ (by omega) hiw hwk) rfl ?_
  intro v hv
  obtain ⟨qv, rfl, hiq, hqk⟩ := fnd_getD hv
  clear hv
  have hqs : ((Nd.find parent wo).getD Nd.zero).size ≤ 1000000000 := by
    cases hq : Nd.find parent wo with
    | none => simp [Nd.zero, Nd.size, Nd.sizes]
    | some m => have := Nd.find_size _ _ _ hq; simp only [Option.getD_some]; omega
  generalize hb : (Nd.find parent wo).isSome = bq
  clear hb
  generalize (Nd.find parent wo).getD Nd.zero = q at *
  have hqk0 := hqk
  have hqn := hqk.le
  obtain ⟨a5, c5, rfl⟩ := hqk.sl
  have hpz := sizes_lt q
  have hpn := Nd.len_le_sizes q.kids
  by_cases hx : index < 0 ∨ (q.kids.length : Int) < index
  · rw [if_pos hx] at hmv
    rw [hmv]
    by_cases hx0 : index < 0
    · skip
      refine WL.val (Val.moveT rfl) rfl ?_
      refine WL.val (Val.extractA rfl rfl) rfl ?_
      refine WL.val (Val.extractB rfl rfl) rfl ?_
      (refine WL.alloc rfl ?_; intro _)
      refine WL.nApp ?_
      refine WL.stA 6 rfl rfl rfl rfl ?_
      refine WL.val (Val.assignB rfl) rfl ?_
      refine WL.nil ?_
      refine WX.thenC ?_
      refine WC.seq ?_
      refine WC.seq ?_
      refine WC.region ?_
      refine WL.val (Val.moveI rfl) rfl ?_
      refine WL.val (Val.lss rfl rfl (decide_eq_true (by omega))) rfl ?_
      refine WL.val (Val.moveB rfl) rfl ?_
      refine WL.gF rfl rfl rfl rfl ?_
      refine WL.gF rfl rfl rfl rfl ?_
      refine WL.gF rfl rfl rfl rfl ?_
      refine WL.gF rfl rfl rfl rfl ?_
      refine WL.gF rfl rfl rfl rfl ?_
      refine WL.val (Val.pick rfl) rfl ?_
      refine WL.nil ?_
      refine WX.thenC ?_
      refine WC.condT rfl ?_
      refine WC.seq ?_
      refine WC.region ?_
      refine WL.val (Val.ldO 1 rfl rfl rfl) rfl ?_
      refine WL.stA 2 rfl rfl rfl rfl ?_
      refine WL.val (Val.assignI rfl) rfl ?_
      refine WL.nil ?_
      refine WX.thenC ?_
      refine WC.ret ?_
      refine WX.thenRet ?_
      apply WX.doneP (ks := [])
      case hres => exact RunRes.r2 rfl (ResIs.cellL 2 rfl rfl rfl) (ResIs.tmpI rfl)
      case hI => first | exact Mem.le.refl _ | assumption
      exact ⟨rfl, _, rfl, htv1⟩
    · skip
      refine WL.val (Val.moveT rfl) rfl ?_
      refine WL.val (Val.extractA rfl rfl) rfl ?_
      refine WL.val (Val.extractB rfl rfl) rfl ?_
      (refine WL.alloc rfl ?_; intro _)
      refine WL.nApp ?_
      refine WL.stA 6 rfl rfl rfl rfl ?_
      refine WL.val (Val.assignB rfl) rfl ?_
      refine WL.nil ?_
      refine WX.thenC ?_
      refine WC.seq ?_
      refine WC.seq ?_
      refine WC.region ?_
      refine WL.val (Val.moveI rfl) rfl ?_
      refine WL.val (Val.lss rfl rfl (decide_eq_false (by omega))) rfl ?_
      refine WL.val (Val.moveB rfl) rfl ?_
      refine WL.gT rfl rfl ?_
      refine WL.val (Val.moveI rfl) rfl ?_
      refine WL.gT rfl rfl ?_
      refine WL.val (Val.fldAddr rfl) rfl ?_
      refine WL.gT rfl rfl ?_
      refine WL.val (Val.loadS rfl (Rd.own1 6 rfl rfl)) rfl ?_
      refine WL.gT rfl rfl ?_
      refine WL.val (Val.len rfl) rfl ?_
      refine WL.gT rfl rfl ?_
      refine WL.val (Val.gtr rfl rfl (decide_eq_true (by omega))) rfl ?_
      refine WL.val (Val.pick rfl) rfl ?_
      refine WL.nil ?_
      refine WX.thenC ?_
      refine WC.condT rfl ?_
      refine WC.seq ?_
      refine WC.region ?_
      refine WL.val (Val.ldO 1 rfl rfl rfl) rfl ?_
      refine WL.stA 2 rfl rfl rfl rfl ?_
      refine WL.val (Val.assignI rfl) rfl ?_
      refine WL.nil ?_
      refine WX.thenC ?_
      refine WC.ret ?_
      refine WX.thenRet ?_
      apply WX.doneP (ks := [])
      case hres => exact RunRes.r2 rfl (ResIs.cellL 2 rfl rfl rfl) (ResIs.tmpI rfl)
      case hI => first | exact Mem.le.refl _ | assumption
      exact ⟨rfl, _, rfl, htv1⟩
  rw [if_neg hx] at hmv
  obtain ⟨ix, rfl⟩ : ∃ k : Nat, index = k := ⟨index.toNat, by omega⟩
  have hix : ix ≤ q.kids.length := by omega
  by_cases h35 : 64 < Nd.depth parent wo + n.height
  · rw [if_pos h35] at hmv
    refine WL.val (Val.moveT rfl) rfl ?_
    refine WL.val (Val.extractA rfl rfl) rfl ?_
    refine WL.val (Val.extractB rfl rfl) rfl ?_
    (refine WL.alloc rfl ?_; intro _)
    refine WL.nApp ?_
    refine WL.stA 6 rfl rfl rfl rfl ?_
    refine WL.val (Val.assignB rfl) rfl ?_
    refine WL.nil ?_
    refine WX.thenC ?_
    refine WC.seq ?_
    refine WC.seq ?_
    refine WC.region ?_
    refine WL.val (Val.moveI rfl) rfl ?_
    refine WL.val (Val.lss rfl rfl (decide_eq_false (by omega))) rfl ?_
    refine WL.val (Val.moveB rfl) rfl ?_
    refine WL.gT rfl rfl ?_
    refine WL.val (Val.moveI rfl) rfl ?_
    refine WL.gT rfl rfl ?_
    refine WL.val (Val.fldAddr rfl) rfl ?_
    refine WL.gT rfl rfl ?_
    refine WL.val (Val.loadS rfl (Rd.own1 6 rfl rfl)) rfl ?_
    refine WL.gT rfl rfl ?_
    refine WL.val (Val.len rfl) rfl ?_
    refine WL.gT rfl rfl ?_
    refine WL.val (Val.gtr rfl rfl (decide_eq_false (by omega))) rfl ?_
    refine WL.val (Val.pick rfl) rfl ?_
    refine WL.nil ?_
    refine WX.thenC ?_
    refine WC.condF rfl ?_
    refine WC.skip ?_
    refine WX.thenC ?_
    refine WC.seq ?_
    refine WC.seq ?_
    refine WC.drawK 999 Ib [3, 3] rfl (by kernel_rfl) rfl rfl ?_
    refine WA.take 0 rfl (by kernel_rfl) rfl (fun w h => (h.sub [3, 3] rfl)) (Val.ldO 0 rfl rfl rfl) rfl ?_
    refine WA.take 1 rfl (by kernel_rfl) rfl (fun w h => (h.sub [3, 3] rfl)) (Val.moveI rfl) rfl ?_
    refine WA.take 3 rfl (by kernel_rfl) rfl (fun w h => (h.sub [3, 3] rfl)) (Val.ldO 1 rfl rfl rfl) rfl ?_
    refine WA.eff1 (i := 2) (by kernel_rfl) rfl rfl ?_
    refine WL.callS rfl rfl (rDepth parent _ wo (Nat.le_refl _) _ _ (by omega) hiw hwk) rfl ?_
    rintro _ rfl
    refine WL.nil ?_
    refine WK.anyStep (fun w h => (h.sub [3, 3] rfl)) ?_
    refine WA.eff1 (i := 4) (by kernel_rfl) rfl rfl ?_
    refine WL.callS rfl rfl (rHeight _ n (Nat.le_refl _) _ _ (by omega) hin hnk) rfl ?_
    rintro _ rfl
    refine WL.nil ?_
    refine WK.anyStep (fun w h => (h.sub [3, 3] rfl)) ?_
    refine WA.take 5 rfl (by kernel_rfl) rfl (fun w h => (h.sub [3, 3] rfl)) (Val.add rfl rfl (wrap_i64 (by omega) (by omega))) rfl ?_
    refine WA.take 6 rfl (by kernel_rfl) rfl (fun w h => (h.sub [3, 3] rfl)) (Val.gtr rfl rfl (decide_eq_true (by omega))) rfl ?_
    refine WA.done (by kernel_rfl) ?_
    refine WX.thenC ?_
    refine WC.condT rfl ?_
    refine WC.seq ?_
    refine WC.region ?_
    refine WL.val (Val.ldO 1 rfl rfl rfl) rfl ?_
    refine WL.stA 2 rfl rfl rfl rfl ?_
    refine WL.val (Val.assignI rfl) rfl ?_
    refine WL.nil ?_
    refine WX.thenC ?_
    refine WC.ret ?_
    refine WX.thenRet ?_
    apply WX.doneP (ks := [])
    case hres => exact RunRes.r2 rfl (ResIs.cellL 2 rfl rfl rfl) (ResIs.tmpI rfl)
    case hI => first | exact Mem.le.refl _ | assumption
    rw [hmv]
    exact ⟨rfl, _, rfl, htv1⟩
  rw [if_neg h35] at hmv
  refine WL.val (Val.moveT rfl) rfl ?_
  refine WL.val (Val.extractA rfl rfl) rfl ?_
  refine WL.val (Val.extractB rfl rfl) rfl ?_
  (refine WL.alloc rfl ?_; intro _)
  refine WL.nApp ?_
  refine WL.stA 6 rfl rfl rfl rfl ?_
  refine WL.val (Val.assignB rfl) rfl ?_
  refine WL.nil ?_
  refine WX.thenC ?_
  refine WC.seq ?_
  refine WC.seq ?_
  refine WC.region ?_
  refine WL.val (Val.moveI rfl) rfl ?_
  refine WL.val (Val.lss rfl rfl (decide_eq_false (by omega))) rfl ?_
  refine WL.val (Val.moveB rfl) rfl ?_
  refine WL.gT rfl rfl ?_
  refine WL.val (Val.moveI rfl) rfl ?_
  refine WL.gT rfl rfl ?_
  refine WL.val (Val.fldAddr rfl) rfl ?_
  refine WL.gT rfl rfl ?_
  refine WL.val (Val.loadS rfl (Rd.own1 6 rfl rfl)) rfl ?_
  refine WL.gT rfl rfl ?_
  refine WL.val (Val.len rfl) rfl ?_
  refine WL.gT rfl rfl ?_
  refine WL.val (Val.gtr rfl rfl (decide_eq_false (by omega))) rfl ?_
  refine WL.val (Val.pick rfl) rfl ?_
  refine WL.nil ?_
  refine WX.thenC ?_
  refine WC.condF rfl ?_
  refine WC.skip ?_
  refine WX.thenC ?_
  refine WC.seq ?_
  refine WC.seq ?_
  refine WC.drawK 999 Ib [3, 3] rfl (by kernel_rfl) rfl rfl ?_
  refine WA.take 0 rfl (by kernel_rfl) rfl (fun w h => (h.sub [3, 3] rfl)) (Val.ldO 0 rfl rfl rfl) rfl ?_
  refine WA.take 1 rfl (by kernel_rfl) rfl (fun w h => (h.sub [3, 3] rfl)) (Val.moveI rfl) rfl ?_
  refine WA.take 3 rfl (by kernel_rfl) rfl (fun w h => (h.sub [3, 3] rfl)) (Val.ldO 1 rfl rfl rfl) rfl ?_
  refine WA.eff1 (i := 2) (by kernel_rfl) rfl rfl ?_
  refine WL.callS rfl rfl (rDepth parent _ wo (Nat.le_refl _) _ _ (by omega) hiw hwk) rfl ?_
  rintro _ rfl
  refine WL.nil ?_
  refine WK.anyStep (fun w h => (h.sub [3, 3] rfl)) ?_
  refine WA.eff1 (i := 4) (by kernel_rfl) rfl rfl ?_
  refine WL.callS rfl rfl (rHeight _ n (Nat.le_refl _) _ _ (by omega) hin hnk) rfl ?_
  rintro _ rfl
  refine WL.nil ?_
  refine WK.anyStep (fun w h => (h.sub [3, 3] rfl)) ?_
  refine WA.take 5 rfl (by kernel_rfl) rfl (fun w h => (h.sub [3, 3] rfl)) (Val.add rfl rfl (wrap_i64 (by omega) (by omega))) rfl ?_
  refine WA.take 6 rfl (by kernel_rfl) rfl (fun w h => (h.sub [3, 3] rfl)) (Val.gtr rfl rfl (decide_eq_false (by omega))) rfl ?_
  refine WA.done (by kernel_rfl) ?_
  have hjl : [(q.kids.drop 0).take (ix - 0), [n], (q.kids.drop ix).take (q.kids.length - ix)].flatten = q.kids.take ix ++ (n :: q.kids.drop ix) := by
    simp only [List.flatten_cons, List.flatten_nil, List.append_nil, List.drop_zero, Nat.sub_zero, List.singleton_append]
    rw [List.take_of_length_le (l := q.kids.drop ix) (by rw [List.length_drop]; omega)]
  rw [Int.toNat_natCast] at hmv
  have hln : (q.kids.take ix ++ (n :: q.kids.drop ix)).length = q.kids.length + 1 := by
    rw [List.length_append, List.length_cons, List.length_take, List.length_drop]; omega
  refine WX.thenC ?_
  refine WC.condF rfl ?_
  refine WC.skip ?_
  refine WX.thenC ?_
  refine WC.seq ?_
  refine WC.drawK 999 Ib [3, 3, 4] rfl (by kernel_rfl) rfl rfl ?_
  refine WA.take 0 rfl (by kernel_rfl) rfl (fun w h => (h.sub [3, 3, 4] rfl)) (Val.ldO 0 rfl rfl rfl) rfl ?_
  refine WA.take 1 rfl (by kernel_rfl) rfl (fun w h => (h.sub [3, 3, 4] rfl)) (Val.moveI rfl) rfl ?_
  refine WA.take 2 rfl (by kernel_rfl) rfl (fun w h => (h.sub [3, 3, 4] rfl)) (Val.fldAddr rfl) rfl ?_
  refine WA.take 3 rfl (by kernel_rfl) rfl (fun w h => (h.sub [3, 3, 4] rfl)) (Val.loadS rfl (Rd.own1 2 rfl rfl)) rfl ?_
  refine WA.take 4 rfl (by kernel_rfl) rfl (fun w h => (h.sub [3, 3, 4] rfl)) (Val.moveI rfl) rfl ?_
  refine WA.take 6 rfl (by kernel_rfl) rfl (fun w h => (h.sub [3, 3, 4] rfl)) (Val.ldO 1 rfl rfl rfl) rfl ?_
  refine WA.take 8 rfl (by kernel_rfl) rfl (fun w h => (h.sub [3, 3, 4] rfl)) (Val.fldAddr rfl) rfl ?_
  refine WA.take 9 rfl (by kernel_rfl) rfl (fun w h => (h.sub [3, 3, 4] rfl)) (Val.loadS rfl (Rd.own1 2 rfl rfl)) rfl ?_
  refine WA.take 10 rfl (by kernel_rfl) rfl (fun w h => (h.sub [3, 3, 4] rfl)) (Val.moveI rfl) rfl ?_
  refine WA.take 11 rfl (by kernel_rfl) rfl (fun w h => (h.sub [3, 3, 4] rfl)) (Val.fldAddr rfl) rfl ?_
  refine WA.take 12 rfl (by kernel_rfl) rfl (fun w h => (h.sub [3, 3, 4] rfl)) (Val.loadS rfl (Rd.own1 2 rfl rfl)) rfl ?_
  refine WA.take 13 rfl (by kernel_rfl) rfl (fun w h => (h.sub [3, 3, 4] rfl)) (Val.len rfl) rfl ?_
  refine WA.eff2 (i := 5) (j := 7) (by kernel_rfl) rfl rfl rfl rfl ?_ ?_
  · skip
    refine WL.callP [] rfl rfl (rPart q.kids _ 0 ix _ (hqk.mono (Mem.le.refl _)) (by omega) (by omega) (by omega)) rfl ?_
    rintro v1 I1 _ hI1 ⟨rfl, ha⟩
    have ha0 := ha
    obtain ⟨aa, ca, rfl⟩ := ha.sl
    refine WL.nApp ?_
    have hJ1 := ((Mem.le.refl _)).trans hI1
    refine WL.nil ?_
    refine WK.anyStep (fun w h => (h.sub [3, 3, 4] rfl).less ((hJ1))) ?_
    refine WA.eff2 (i := 7) (j := 14) (by kernel_rfl) rfl rfl rfl rfl ?_ ?_
    · skip
      (refine WL.buildSlice (by with_unfolding_all exact rfl) rfl (by with_unfolding_all exact rfl) rfl ?_; intro _)
      rename_i gl
      refine WL.nApp ?_
      refine WL.lit (R := Nd.Rp) (sz := 3) (l := [n]) (css := [[vi n.id, .bool n.grp, .slice a4 n.kids.length c4]]) 7 rfl ⟨Nd.rp_mono hnd (hJ1), trivial⟩ rfl (show 1 ≤ maxLen by decide) fun I2 hI2 hb => ?_
      replace ha := ha.mono hI2
      have hJ2 := (hJ1).trans hI2
      refine WL.nil ?_
      refine WK.anyStep (fun w h => (h.sub [3, 3, 4] rfl).less ((hJ2))) ?_
      refine WA.eff1 (i := 14) (by kernel_rfl) rfl rfl ?_
      refine WL.callP [] rfl rfl (rPart q.kids _ ix q.kids.length _ (hqk.mono hJ2) (by omega) (by omega) (by omega)) rfl ?_
      rintro v3 I3 _ hI3 ⟨rfl, hc⟩
      have hc0 := hc
      obtain ⟨ac, cc, rfl⟩ := hc.sl
      refine WL.nApp ?_
      replace ha := ha.mono hI3
      replace hb := hb.mono hI3
      have hJ3 := (hJ2).trans hI3
      refine WL.nil ?_
      refine WK.anyStep (fun w h => (h.sub [3, 3, 4] rfl).less ((hJ3))) ?_
      refine WA.eff1 (i := 15) (by kernel_rfl) rfl rfl ?_
      (refine WL.buildSlice (by with_unfolding_all exact rfl) rfl (by with_unfolding_all exact rfl) rfl ?_; intro _)
      rename_i gb
      refine WL.nApp ?_
      refine WL.lit (R := Rl) (sz := 1) (l := [(q.kids.drop 0).take (ix - 0), [n], (q.kids.drop ix).take (q.kids.length - ix)]) (css := [[_], [_], [_]]) 7 rfl ⟨⟨_, rfl, ha⟩, ⟨_, rfl, hb⟩, ⟨_, rfl, hc⟩, trivial⟩ rfl (show 3 ≤ maxLen by decide) fun I4 hI4 hl => ?_
      have hJ4 := (hJ3).trans hI4
      refine WL.nil ?_
      refine WK.anyStep (fun w h => (h.sub [3, 3, 4] rfl).less ((hJ4))) ?_
      refine WA.eff1 (i := 16) (by kernel_rfl) rfl rfl ?_
      refine WL.callP [] rfl rfl (rJoin _ _ _ hl (by rw [hjl]; omega)) rfl ?_
      rintro v I5 _ hI5 ⟨rfl, hw⟩
      have hJ5 := (hJ4).trans hI5
      rw [hjl] at hw
      have hw0 := hw
      obtain ⟨aw, cw, rfl⟩ := hw.sl
      refine WL.nApp ?_
      refine WL.nil ?_
      refine WK.anyStep (fun w h => (h.sub [3, 3, 4] rfl).less ((hJ5))) ?_
      refine WA.eff1 (i := 17) (by kernel_rfl) rfl rfl ?_
      refine WL.callP [] rfl rfl (rWith parent _ _ wo (Nat.le_refl _) _ _ _ (by omega) hiw (hwk.mono hJ5) hw) rfl ?_
      rintro v I6 _ hI6 ⟨rfl, kw, rfl, hr⟩
      have hJ6 := (hJ5).trans hI6
      have hr0 := hr
      obtain ⟨ar, cr, rfl⟩ := hr.sl
      refine WL.nApp ?_
      refine WL.nil ?_
      refine WK.anyStep (fun w h => (h.sub [3, 3, 4] rfl).less ((hJ6))) ?_
      refine WA.eff1 (i := 18) (by kernel_rfl) rfl rfl ?_
      refine WL.stA 2 rfl rfl rfl rfl ?_
      refine WL.nil ?_
      refine WK.anyStep (fun w h => (h.sub [3, 3, 4] rfl).less ((hJ6))) ?_
      refine WA.take 19 rfl (by kernel_rfl) rfl (fun w h => (h.sub [3, 3, 4] rfl).less ((hJ6))) (Val.assignI rfl) rfl ?_
      refine WA.done (by kernel_rfl) ?_
      refine WX.thenC ?_
      refine WC.ret ?_
      have hK := hIb.trans hJ6
      apply WX.doneP (ks := [])
      case hres => exact RunRes.r2 rfl (ResIs.cellL 2 rfl rfl rfl) (ResIs.tmpI rfl)
      case hI => first | exact Mem.le.refl _ | assumption
      rw [hmv]
      exact ⟨rfl, _, rfl, hr⟩
    · skip
      refine WL.callP [] rfl rfl (rPart q.kids _ ix q.kids.length _ (hqk.mono hJ1) (by omega) (by omega) (by omega)) rfl ?_
      rintro v2 I2 _ hI2 ⟨rfl, hc⟩
      have hc0 := hc
      obtain ⟨ac, cc, rfl⟩ := hc.sl
      refine WL.nApp ?_
      replace ha := ha.mono hI2
      have hJ2 := (hJ1).trans hI2
      refine WL.nil ?_
      refine WK.anyStep (fun w h => (h.sub [3, 3, 4] rfl).less ((hJ2))) ?_
      refine WA.eff1 (i := 7) (by kernel_rfl) rfl rfl ?_
      (refine WL.buildSlice (by with_unfolding_all exact rfl) rfl (by with_unfolding_all exact rfl) rfl ?_; intro _)
      rename_i gl
      refine WL.nApp ?_
      refine WL.lit (R := Nd.Rp) (sz := 3) (l := [n]) (css := [[vi n.id, .bool n.grp, .slice a4 n.kids.length c4]]) 7 rfl ⟨Nd.rp_mono hnd (hJ2), trivial⟩ rfl (show 1 ≤ maxLen by decide) fun I3 hI3 hb => ?_
      replace ha := ha.mono hI3
      replace hc := hc.mono hI3
      have hJ3 := (hJ2).trans hI3
      refine WL.nil ?_
      refine WK.anyStep (fun w h => (h.sub [3, 3, 4] rfl).less ((hJ3))) ?_
      refine WA.eff1 (i := 15) (by kernel_rfl) rfl rfl ?_
      (refine WL.buildSlice (by with_unfolding_all exact rfl) rfl (by with_unfolding_all exact rfl) rfl ?_; intro _)
      rename_i gb
      refine WL.nApp ?_
      refine WL.lit (R := Rl) (sz := 1) (l := [(q.kids.drop 0).take (ix - 0), [n], (q.kids.drop ix).take (q.kids.length - ix)]) (css := [[_], [_], [_]]) 7 rfl ⟨⟨_, rfl, ha⟩, ⟨_, rfl, hb⟩, ⟨_, rfl, hc⟩, trivial⟩ rfl (show 3 ≤ maxLen by decide) fun I4 hI4 hl => ?_
      have hJ4 := (hJ3).trans hI4
      refine WL.nil ?_
      refine WK.anyStep (fun w h => (h.sub [3, 3, 4] rfl).less ((hJ4))) ?_
      refine WA.eff1 (i := 16) (by kernel_rfl) rfl rfl ?_
      refine WL.callP [] rfl rfl (rJoin _ _ _ hl (by rw [hjl]; omega)) rfl ?_
      rintro v I5 _ hI5 ⟨rfl, hw⟩
      have hJ5 := (hJ4).trans hI5
      rw [hjl] at hw
      have hw0 := hw
      obtain ⟨aw, cw, rfl⟩ := hw.sl
      refine WL.nApp ?_
      refine WL.nil ?_
      refine WK.anyStep (fun w h => (h.sub [3, 3, 4] rfl).less ((hJ5))) ?_
      refine WA.eff1 (i := 17) (by kernel_rfl) rfl rfl ?_
      refine WL.callP [] rfl rfl (rWith parent _ _ wo (Nat.le_refl _) _ _ _ (by omega) hiw (hwk.mono hJ5) hw) rfl ?_
      rintro v I6 _ hI6 ⟨rfl, kw, rfl, hr⟩
      have hJ6 := (hJ5).trans hI6
      have hr0 := hr
      obtain ⟨ar, cr, rfl⟩ := hr.sl
      refine WL.nApp ?_
      refine WL.nil ?_
      refine WK.anyStep (fun w h => (h.sub [3, 3, 4] rfl).less ((hJ6))) ?_
      refine WA.eff1 (i := 18) (by kernel_rfl) rfl rfl ?_
      refine WL.stA 2 rfl rfl rfl rfl ?_
      refine WL.nil ?_
      refine WK.anyStep (fun w h => (h.sub [3, 3, 4] rfl).less ((hJ6))) ?_
      refine WA.take 19 rfl (by kernel_rfl) rfl (fun w h => (h.sub [3, 3, 4] rfl).less ((hJ6))) (Val.assignI rfl) rfl ?_
      refine WA.done (by kernel_rfl) ?_
      refine WX.thenC ?_
      refine WC.ret ?_
      have hK := hIb.trans hJ6
      apply WX.doneP (ks := [])
      case hres => exact RunRes.r2 rfl (ResIs.cellL 2 rfl rfl rfl) (ResIs.tmpI rfl)
      case hI => first | exact Mem.le.refl _ | assumption
      rw [hmv]
      exact ⟨rfl, _, rfl, hr⟩
  · skip
    (refine WL.buildSlice (by with_unfolding_all exact rfl) rfl (by with_unfolding_all exact rfl) rfl ?_; intro _)
    rename_i gl
    refine WL.nApp ?_
    refine WL.lit (R := Nd.Rp) (sz := 3) (l := [n]) (css := [[vi n.id, .bool n.grp, .slice a4 n.kids.length c4]]) 7 rfl ⟨Nd.rp_mono hnd ((Mem.le.refl _)), trivial⟩ rfl (show 1 ≤ maxLen by decide) fun I1 hI1 hb => ?_
    have hJ1 := ((Mem.le.refl _)).trans hI1
    refine WL.nil ?_
    refine WK.anyStep (fun w h => (h.sub [3, 3, 4] rfl).less ((hJ1))) ?_
    refine WA.eff1 (i := 5) (by kernel_rfl) rfl rfl ?_
    refine WL.callP [] rfl rfl (rPart q.kids _ 0 ix _ (hqk.mono hJ1) (by omega) (by omega) (by omega)) rfl ?_
    rintro v2 I2 _ hI2 ⟨rfl, ha⟩
    have ha0 := ha
    obtain ⟨aa, ca, rfl⟩ := ha.sl
    refine WL.nApp ?_
    replace hb := hb.mono hI2
    have hJ2 := (hJ1).trans hI2
    refine WL.nil ?_
    refine WK.anyStep (fun w h => (h.sub [3, 3, 4] rfl).less ((hJ2))) ?_
    refine WA.eff1 (i := 14) (by kernel_rfl) rfl rfl ?_
    refine WL.callP [] rfl rfl (rPart q.kids _ ix q.kids.length _ (hqk.mono hJ2) (by omega) (by omega) (by omega)) rfl ?_
    rintro v3 I3 _ hI3 ⟨rfl, hc⟩
    have hc0 := hc
    obtain ⟨ac, cc, rfl⟩ := hc.sl
    refine WL.nApp ?_
    replace ha := ha.mono hI3
    replace hb := hb.mono hI3
    have hJ3 := (hJ2).trans hI3
    refine WL.nil ?_
    refine WK.anyStep (fun w h => (h.sub [3, 3, 4] rfl).less ((hJ3))) ?_
    refine WA.eff1 (i := 15) (by kernel_rfl) rfl rfl ?_
    (refine WL.buildSlice (by with_unfolding_all exact rfl) rfl (by with_unfolding_all exact rfl) rfl ?_; intro _)
    rename_i gb
    refine WL.nApp ?_
    refine WL.lit (R := Rl) (sz := 1) (l := [(q.kids.drop 0).take (ix - 0), [n], (q.kids.drop ix).take (q.kids.length - ix)]) (css := [[_], [_], [_]]) 7 rfl ⟨⟨_, rfl, ha⟩, ⟨_, rfl, hb⟩, ⟨_, rfl, hc⟩, trivial⟩ rfl (show 3 ≤ maxLen by decide) fun I4 hI4 hl => ?_
    have hJ4 := (hJ3).trans hI4
    refine WL.nil ?_
    refine WK.anyStep (fun w h => (h.sub [3, 3, 4] rfl).less ((hJ4))) ?_
    refine WA.eff1 (i := 16) (by kernel_rfl) rfl rfl ?_
    refine WL.callP [] rfl rfl (rJoin _ _ _ hl (by rw [hjl]; omega)) rfl ?_
    rintro v I5 _ hI5 ⟨rfl, hw⟩
    have hJ5 := (hJ4).trans hI5
    rw [hjl] at hw
    have hw0 := hw
    obtain ⟨aw, cw, rfl⟩ := hw.sl
    refine WL.nApp ?_
    refine WL.nil ?_
    refine WK.anyStep (fun w h => (h.sub [3, 3, 4] rfl).less ((hJ5))) ?_
    refine WA.eff1 (i := 17) (by kernel_rfl) rfl rfl ?_
    refine WL.callP [] rfl rfl (rWith parent _ _ wo (Nat.le_refl _) _ _ _ (by omega) hiw (hwk.mono hJ5) hw) rfl ?_
    rintro v I6 _ hI6 ⟨rfl, kw, rfl, hr⟩
    have hJ6 := (hJ5).trans hI6
    have hr0 := hr
    obtain ⟨ar, cr, rfl⟩ := hr.sl
    refine WL.nApp ?_
    refine WL.nil ?_
    refine WK.anyStep (fun w h => (h.sub [3, 3, 4] rfl).less ((hJ6))) ?_
    refine WA.eff1 (i := 18) (by kernel_rfl) rfl rfl ?_
    refine WL.stA 2 rfl rfl rfl rfl ?_
    refine WL.nil ?_
    refine WK.anyStep (fun w h => (h.sub [3, 3, 4] rfl).less ((hJ6))) ?_
    refine WA.take 19 rfl (by kernel_rfl) rfl (fun w h => (h.sub [3, 3, 4] rfl).less ((hJ6))) (Val.assignI rfl) rfl ?_
    refine WA.done (by kernel_rfl) ?_
    refine WX.thenC ?_
    refine WC.ret ?_
    have hK := hIb.trans hJ6
    apply WX.doneP (ks := [])
    case hres => exact RunRes.r2 rfl (ResIs.cellL 2 rfl rfl rfl) (ResIs.tmpI rfl)
    case hI => first | exact Mem.le.refl _ | assumption
    rw [hmv]
    exact ⟨rfl, _, rfl, hr⟩
end Go.Proofs.Ytfdeckdongonnab

/-
  Tree, the walks: the document's functions (8): wrap.
-/

namespace Go.Tr
open Go.Sl Go.Ls
namespace Nd
/-- Wrap, as the document has it. -/
def wrap (top : Nd) (i parent index count : Int) : Nd × Int :=
  match find parent top with
  | none => (top, 31)
  | some p => if p.grp = false then (top, 33)
    else if index < 0 ∨ count < 0 ∨ (p.kids.length : Int) < index ∨ (p.kids.length : Int) - index < count then (top, 30)
    else if fits top (mk i true []) (depth parent top + 1) ≠ 0 then (top, fits top (mk i true []) (depth parent top + 1))
    else if 64 < depth parent top + 1 + (mk i true ((p.kids.drop index.toNat).take count.toNat)).height - 1 then (top, 35)
    else (with_ parent (p.kids.take index.toNat ++ (mk i true ((p.kids.drop index.toNat).take count.toNat) :: p.kids.drop (index.toNat + count.toNat))) top, 0)
theorem sizes_drop : ∀ (l : List Nd) (k : Nat), sizes (l.drop k) ≤ sizes l
  | [], k => by simp [sizes]
  | x :: l, 0 => by simp [sizes]
  | x :: l, k + 1 => by simp only [List.drop_succ_cons, sizes]; have := sizes_drop l k; omega
end Nd
end Go.Tr
namespace Go.Proofs.Ytfdeckdongonnab
open Go.Sl Go.Ls Go.Tr
set_option maxRecDepth 100000
set_option maxHeartbeats 4000000
set_option linter.unusedVariables false
attribute [local irreducible] WC WL WX WK WA WAK Val Ctr RunRes ResIs Rd At sl box pt Exit.then Exit.inBlock bodyPost Code.wp wpList
theorem rWrap (top : Nd) (tv : Value) (i parent index count : Int) (I : Mem) (hbt : top.size ≤ 1000000000) (hit : I64 top.id) (htv : LsAt Nd.Rp I top.kids tv) (hi : I64 i) :
    Ctr Try.prog 53 [.agg #[vi top.id, .bool top.grp, tv], vi i, vi parent, vi index, vi count] I [] (RetE (Nd.wrap top i parent index count)) := by
  have hwr : Nd.wrap top i parent index count = match Nd.find parent top with
    | none => (top, 31)
    | some p => if p.grp = false then (top, 33)
      else if index < 0 ∨ count < 0 ∨ (p.kids.length : Int) < index ∨ (p.kids.length : Int) - index < count then (top, 30)
      else if Nd.fits top (.mk i true []) (Nd.depth parent top + 1) ≠ 0 then (top, Nd.fits top (.mk i true []) (Nd.depth parent top + 1))
      else if 64 < Nd.depth parent top + 1 + (Nd.mk i true ((p.kids.drop index.toNat).take count.toNat)).height - 1 then (top, 35)
      else (Nd.with_ parent (p.kids.take index.toNat ++ (.mk i true ((p.kids.drop index.toNat).take count.toNat) :: p.kids.drop (index.toNat + count.toNat))) top, 0) := rfl
  replace hbt : top.size ≤ 1099511627776 ∧ top.size ≤ 1000000000 := ⟨by omega, hbt⟩
  obtain ⟨hbt, hbt1⟩ := hbt
  have htv0 := htv
  obtain ⟨a9, c9, rfl⟩ := htv.sl
  have hdp := Nd.depth_le parent top
  refine Ctr.intro Try.func53 rfl rfl rfl fun E F => ?_
  refine WC.seq ?_
  refine WC.region ?_
  (refine WL.boxA rfl rfl ?_; intro _)
  refine WL.nApp ?_
  (refine WL.alloc rfl ?_; intro _)
  refine WL.nApp ?_
  refine WL.val (Val.assignI rfl) rfl ?_
  refine WL.nil ?_
  refine WX.thenC ?_
  refine WC.seq ?_
  refine WC.region ?_
  refine WL.val (Val.ldO 1 rfl rfl rfl) rfl ?_
  refine WL.val (Val.moveI rfl) rfl ?_
  refine WL.callS rfl rfl (rFind parent _ top (Nat.le_refl _) _ _ hbt hit htv) rfl ?_
  rintro _ (⟨p, pv, hp, rfl, hip, hpk⟩ | ⟨hp, rfl⟩)
  case inr =>
    refine WL.val (Val.moveT rfl) rfl ?_
    refine WL.val (Val.extractA rfl rfl) rfl ?_
    refine WL.val (Val.extractB rfl rfl) rfl ?_
    (refine WL.alloc rfl ?_; intro _)
    refine WL.nApp ?_
    refine WL.stA 3 rfl rfl rfl rfl ?_
    refine WL.val (Val.assignB rfl) rfl ?_
    refine WL.nil ?_
    refine WX.thenC ?_
    refine WC.seq ?_
    refine WC.seq ?_
    refine WC.region ?_
    refine WL.val (Val.moveB rfl) rfl ?_
    refine WL.val (Val.not rfl) rfl ?_
    refine WL.nil ?_
    refine WX.thenC ?_
    refine WC.condT rfl ?_
    refine WC.seq ?_
    refine WC.region ?_
    refine WL.val (Val.ldO 1 rfl rfl rfl) rfl ?_
    refine WL.stA 2 rfl rfl rfl rfl ?_
    refine WL.val (Val.assignI rfl) rfl ?_
    refine WL.nil ?_
    refine WX.thenC ?_
    refine WC.ret ?_
    refine WX.thenRet ?_
    apply WX.doneP (ks := [])
    case hres => exact RunRes.r2 rfl (ResIs.cellL 2 rfl rfl rfl) (ResIs.tmpI rfl)
    case hI => first | exact Mem.le.refl _ | assumption
    rw [hwr, hp]
    exact ⟨rfl, _, rfl, htv⟩
  have hpk0 := hpk
  have hpl := hpk.le
  obtain ⟨a3, c3, rfl⟩ := hpk.sl
  have hps := Nd.find_size parent top p hp
  have hpz := sizes_lt p
  have hpn := Nd.len_le_sizes p.kids
  rw [hp] at hwr
  simp only at hwr
  cases hg : p.grp
  · skip
    refine WL.val (Val.moveT rfl) rfl ?_
    refine WL.val (Val.extractA rfl rfl) rfl ?_
    refine WL.val (Val.extractB rfl rfl) rfl ?_
    (refine WL.alloc rfl ?_; intro _)
    refine WL.nApp ?_
    refine WL.stA 3 rfl rfl rfl rfl ?_
    refine WL.val (Val.assignB rfl) rfl ?_
    refine WL.nil ?_
    refine WX.thenC ?_
    refine WC.seq ?_
    refine WC.seq ?_
    refine WC.region ?_
    refine WL.val (Val.moveB rfl) rfl ?_
    refine WL.val (Val.not rfl) rfl ?_
    refine WL.nil ?_
    refine WX.thenC ?_
    refine WC.condF rfl ?_
    refine WC.skip ?_
    refine WX.thenC ?_
    refine WC.seq ?_
    refine WC.seq ?_
    refine WC.region ?_
    refine WL.val (Val.fldAddr rfl) rfl ?_
    refine WL.val (Val.loadS rfl (Rd.own1 3 rfl rfl)) rfl ?_
    refine WL.val (Val.not rfl) rfl ?_
    refine WL.nil ?_
    refine WX.thenC ?_
    refine WC.condT rfl ?_
    refine WC.seq ?_
    refine WC.region ?_
    refine WL.val (Val.ldO 1 rfl rfl rfl) rfl ?_
    refine WL.stA 2 rfl rfl rfl rfl ?_
    refine WL.val (Val.assignI rfl) rfl ?_
    refine WL.nil ?_
    refine WX.thenC ?_
    refine WC.ret ?_
    refine WX.thenRet ?_
    apply WX.doneP (ks := [])
    case hres => exact RunRes.r2 rfl (ResIs.cellL 2 rfl rfl rfl) (ResIs.tmpI rfl)
    case hI => first | exact Mem.le.refl _ | assumption
    rw [hwr, if_pos hg]
    exact ⟨rfl, _, rfl, htv⟩
  rw [hg, if_neg (by decide)] at hwr
  by_cases hx : index < 0 ∨ count < 0 ∨ (p.kids.length : Int) < index ∨ (p.kids.length : Int) - index < count
  · rw [if_pos hx] at hwr
    rw [hwr]
    by_cases hx0 : index < 0
    · skip
      refine WL.val (Val.moveT rfl) rfl ?_
      refine WL.val (Val.extractA rfl rfl) rfl ?_
      refine WL.val (Val.extractB rfl rfl) rfl ?_
      (refine WL.alloc rfl ?_; intro _)
      refine WL.nApp ?_
      refine WL.stA 3 rfl rfl rfl rfl ?_
      refine WL.val (Val.assignB rfl) rfl ?_
      refine WL.nil ?_
      refine WX.thenC ?_
      refine WC.seq ?_
      refine WC.seq ?_
      refine WC.region ?_
      refine WL.val (Val.moveB rfl) rfl ?_
      refine WL.val (Val.not rfl) rfl ?_
      refine WL.nil ?_
      refine WX.thenC ?_
      refine WC.condF rfl ?_
      refine WC.skip ?_
      refine WX.thenC ?_
      refine WC.seq ?_
      refine WC.seq ?_
      refine WC.region ?_
      refine WL.val (Val.fldAddr rfl) rfl ?_
      refine WL.val (Val.loadS rfl (Rd.own1 3 rfl rfl)) rfl ?_
      refine WL.val (Val.not rfl) rfl ?_
      refine WL.nil ?_
      refine WX.thenC ?_
      refine WC.condF rfl ?_
      refine WC.skip ?_
      refine WX.thenC ?_
      refine WC.seq ?_
      refine WC.seq ?_
      refine WC.region ?_
      refine WL.val (Val.moveI rfl) rfl ?_
      refine WL.val (Val.lss rfl rfl (decide_eq_true (by omega))) rfl ?_
      refine WL.val (Val.moveB rfl) rfl ?_
      refine WL.gF rfl rfl rfl rfl ?_
      refine WL.gF rfl rfl rfl rfl ?_
      refine WL.val (Val.pick rfl) rfl ?_
      refine WL.val (Val.moveB rfl) rfl ?_
      refine WL.gF rfl rfl rfl rfl ?_
      refine WL.gF rfl rfl rfl rfl ?_
      refine WL.gF rfl rfl rfl rfl ?_
      refine WL.gF rfl rfl rfl rfl ?_
      refine WL.gF rfl rfl rfl rfl ?_
      refine WL.val (Val.pick rfl) rfl ?_
      refine WL.val (Val.moveB rfl) rfl ?_
      refine WL.gF rfl rfl rfl rfl ?_
      refine WL.gF rfl rfl rfl rfl ?_
      refine WL.gF rfl rfl rfl rfl ?_
      refine WL.gF rfl rfl rfl rfl ?_
      refine WL.gF rfl rfl rfl rfl ?_
      refine WL.gF rfl rfl rfl rfl ?_
      refine WL.gF rfl rfl rfl rfl ?_
      refine WL.val (Val.pick rfl) rfl ?_
      refine WL.nil ?_
      refine WX.thenC ?_
      refine WC.condT rfl ?_
      refine WC.seq ?_
      refine WC.region ?_
      refine WL.val (Val.ldO 1 rfl rfl rfl) rfl ?_
      refine WL.stA 2 rfl rfl rfl rfl ?_
      refine WL.val (Val.assignI rfl) rfl ?_
      refine WL.nil ?_
      refine WX.thenC ?_
      refine WC.ret ?_
      refine WX.thenRet ?_
      apply WX.doneP (ks := [])
      case hres => exact RunRes.r2 rfl (ResIs.cellL 2 rfl rfl rfl) (ResIs.tmpI rfl)
      case hI => first | exact Mem.le.refl _ | assumption
      exact ⟨rfl, _, rfl, htv⟩
    by_cases hx1 : count < 0
    · skip
      refine WL.val (Val.moveT rfl) rfl ?_
      refine WL.val (Val.extractA rfl rfl) rfl ?_
      refine WL.val (Val.extractB rfl rfl) rfl ?_
      (refine WL.alloc rfl ?_; intro _)
      refine WL.nApp ?_
      refine WL.stA 3 rfl rfl rfl rfl ?_
      refine WL.val (Val.assignB rfl) rfl ?_
      refine WL.nil ?_
      refine WX.thenC ?_
      refine WC.seq ?_
      refine WC.seq ?_
      refine WC.region ?_
      refine WL.val (Val.moveB rfl) rfl ?_
      refine WL.val (Val.not rfl) rfl ?_
      refine WL.nil ?_
      refine WX.thenC ?_
      refine WC.condF rfl ?_
      refine WC.skip ?_
      refine WX.thenC ?_
      refine WC.seq ?_
      refine WC.seq ?_
      refine WC.region ?_
      refine WL.val (Val.fldAddr rfl) rfl ?_
      refine WL.val (Val.loadS rfl (Rd.own1 3 rfl rfl)) rfl ?_
      refine WL.val (Val.not rfl) rfl ?_
      refine WL.nil ?_
      refine WX.thenC ?_
      refine WC.condF rfl ?_
      refine WC.skip ?_
      refine WX.thenC ?_
      refine WC.seq ?_
      refine WC.seq ?_
      refine WC.region ?_
      refine WL.val (Val.moveI rfl) rfl ?_
      refine WL.val (Val.lss rfl rfl (decide_eq_false (by omega))) rfl ?_
      refine WL.val (Val.moveB rfl) rfl ?_
      refine WL.gT rfl rfl ?_
      refine WL.val (Val.moveI rfl) rfl ?_
      refine WL.gT rfl rfl ?_
      refine WL.val (Val.lss rfl rfl (decide_eq_true (by omega))) rfl ?_
      refine WL.val (Val.pick rfl) rfl ?_
      refine WL.val (Val.moveB rfl) rfl ?_
      refine WL.gF rfl rfl rfl rfl ?_
      refine WL.gF rfl rfl rfl rfl ?_
      refine WL.gF rfl rfl rfl rfl ?_
      refine WL.gF rfl rfl rfl rfl ?_
      refine WL.gF rfl rfl rfl rfl ?_
      refine WL.val (Val.pick rfl) rfl ?_
      refine WL.val (Val.moveB rfl) rfl ?_
      refine WL.gF rfl rfl rfl rfl ?_
      refine WL.gF rfl rfl rfl rfl ?_
      refine WL.gF rfl rfl rfl rfl ?_
      refine WL.gF rfl rfl rfl rfl ?_
      refine WL.gF rfl rfl rfl rfl ?_
      refine WL.gF rfl rfl rfl rfl ?_
      refine WL.gF rfl rfl rfl rfl ?_
      refine WL.val (Val.pick rfl) rfl ?_
      refine WL.nil ?_
      refine WX.thenC ?_
      refine WC.condT rfl ?_
      refine WC.seq ?_
      refine WC.region ?_
      refine WL.val (Val.ldO 1 rfl rfl rfl) rfl ?_
      refine WL.stA 2 rfl rfl rfl rfl ?_
      refine WL.val (Val.assignI rfl) rfl ?_
      refine WL.nil ?_
      refine WX.thenC ?_
      refine WC.ret ?_
      refine WX.thenRet ?_
      apply WX.doneP (ks := [])
      case hres => exact RunRes.r2 rfl (ResIs.cellL 2 rfl rfl rfl) (ResIs.tmpI rfl)
      case hI => first | exact Mem.le.refl _ | assumption
      exact ⟨rfl, _, rfl, htv⟩
    by_cases hx2 : (p.kids.length : Int) < index
    · skip
      refine WL.val (Val.moveT rfl) rfl ?_
      refine WL.val (Val.extractA rfl rfl) rfl ?_
      refine WL.val (Val.extractB rfl rfl) rfl ?_
      (refine WL.alloc rfl ?_; intro _)
      refine WL.nApp ?_
      refine WL.stA 3 rfl rfl rfl rfl ?_
      refine WL.val (Val.assignB rfl) rfl ?_
      refine WL.nil ?_
      refine WX.thenC ?_
      refine WC.seq ?_
      refine WC.seq ?_
      refine WC.region ?_
      refine WL.val (Val.moveB rfl) rfl ?_
      refine WL.val (Val.not rfl) rfl ?_
      refine WL.nil ?_
      refine WX.thenC ?_
      refine WC.condF rfl ?_
      refine WC.skip ?_
      refine WX.thenC ?_
      refine WC.seq ?_
      refine WC.seq ?_
      refine WC.region ?_
      refine WL.val (Val.fldAddr rfl) rfl ?_
      refine WL.val (Val.loadS rfl (Rd.own1 3 rfl rfl)) rfl ?_
      refine WL.val (Val.not rfl) rfl ?_
      refine WL.nil ?_
      refine WX.thenC ?_
      refine WC.condF rfl ?_
      refine WC.skip ?_
      refine WX.thenC ?_
      refine WC.seq ?_
      refine WC.seq ?_
      refine WC.region ?_
      refine WL.val (Val.moveI rfl) rfl ?_
      refine WL.val (Val.lss rfl rfl (decide_eq_false (by omega))) rfl ?_
      refine WL.val (Val.moveB rfl) rfl ?_
      refine WL.gT rfl rfl ?_
      refine WL.val (Val.moveI rfl) rfl ?_
      refine WL.gT rfl rfl ?_
      refine WL.val (Val.lss rfl rfl (decide_eq_false (by omega))) rfl ?_
      refine WL.val (Val.pick rfl) rfl ?_
      refine WL.val (Val.moveB rfl) rfl ?_
      refine WL.gT rfl rfl ?_
      refine WL.val (Val.moveI rfl) rfl ?_
      refine WL.gT rfl rfl ?_
      refine WL.val (Val.fldAddr rfl) rfl ?_
      refine WL.gT rfl rfl ?_
      refine WL.val (Val.loadS rfl (Rd.own1 3 rfl rfl)) rfl ?_
      refine WL.gT rfl rfl ?_
      refine WL.val (Val.len rfl) rfl ?_
      refine WL.gT rfl rfl ?_
      refine WL.val (Val.gtr rfl rfl (decide_eq_true (by omega))) rfl ?_
      refine WL.val (Val.pick rfl) rfl ?_
      refine WL.val (Val.moveB rfl) rfl ?_
      refine WL.gF rfl rfl rfl rfl ?_
      refine WL.gF rfl rfl rfl rfl ?_
      refine WL.gF rfl rfl rfl rfl ?_
      refine WL.gF rfl rfl rfl rfl ?_
      refine WL.gF rfl rfl rfl rfl ?_
      refine WL.gF rfl rfl rfl rfl ?_
      refine WL.gF rfl rfl rfl rfl ?_
      refine WL.val (Val.pick rfl) rfl ?_
      refine WL.nil ?_
      refine WX.thenC ?_
      refine WC.condT rfl ?_
      refine WC.seq ?_
      refine WC.region ?_
      refine WL.val (Val.ldO 1 rfl rfl rfl) rfl ?_
      refine WL.stA 2 rfl rfl rfl rfl ?_
      refine WL.val (Val.assignI rfl) rfl ?_
      refine WL.nil ?_
      refine WX.thenC ?_
      refine WC.ret ?_
      refine WX.thenRet ?_
      apply WX.doneP (ks := [])
      case hres => exact RunRes.r2 rfl (ResIs.cellL 2 rfl rfl rfl) (ResIs.tmpI rfl)
      case hI => first | exact Mem.le.refl _ | assumption
      exact ⟨rfl, _, rfl, htv⟩
    · skip
      refine WL.val (Val.moveT rfl) rfl ?_
      refine WL.val (Val.extractA rfl rfl) rfl ?_
      refine WL.val (Val.extractB rfl rfl) rfl ?_
      (refine WL.alloc rfl ?_; intro _)
      refine WL.nApp ?_
      refine WL.stA 3 rfl rfl rfl rfl ?_
      refine WL.val (Val.assignB rfl) rfl ?_
      refine WL.nil ?_
      refine WX.thenC ?_
      refine WC.seq ?_
      refine WC.seq ?_
      refine WC.region ?_
      refine WL.val (Val.moveB rfl) rfl ?_
      refine WL.val (Val.not rfl) rfl ?_
      refine WL.nil ?_
      refine WX.thenC ?_
      refine WC.condF rfl ?_
      refine WC.skip ?_
      refine WX.thenC ?_
      refine WC.seq ?_
      refine WC.seq ?_
      refine WC.region ?_
      refine WL.val (Val.fldAddr rfl) rfl ?_
      refine WL.val (Val.loadS rfl (Rd.own1 3 rfl rfl)) rfl ?_
      refine WL.val (Val.not rfl) rfl ?_
      refine WL.nil ?_
      refine WX.thenC ?_
      refine WC.condF rfl ?_
      refine WC.skip ?_
      refine WX.thenC ?_
      refine WC.seq ?_
      refine WC.seq ?_
      refine WC.region ?_
      refine WL.val (Val.moveI rfl) rfl ?_
      refine WL.val (Val.lss rfl rfl (decide_eq_false (by omega))) rfl ?_
      refine WL.val (Val.moveB rfl) rfl ?_
      refine WL.gT rfl rfl ?_
      refine WL.val (Val.moveI rfl) rfl ?_
      refine WL.gT rfl rfl ?_
      refine WL.val (Val.lss rfl rfl (decide_eq_false (by omega))) rfl ?_
      refine WL.val (Val.pick rfl) rfl ?_
      refine WL.val (Val.moveB rfl) rfl ?_
      refine WL.gT rfl rfl ?_
      refine WL.val (Val.moveI rfl) rfl ?_
      refine WL.gT rfl rfl ?_
      refine WL.val (Val.fldAddr rfl) rfl ?_
      refine WL.gT rfl rfl ?_
      refine WL.val (Val.loadS rfl (Rd.own1 3 rfl rfl)) rfl ?_
      refine WL.gT rfl rfl ?_
      refine WL.val (Val.len rfl) rfl ?_
      refine WL.gT rfl rfl ?_
      refine WL.val (Val.gtr rfl rfl (decide_eq_false (by omega))) rfl ?_
      refine WL.val (Val.pick rfl) rfl ?_
      refine WL.val (Val.moveB rfl) rfl ?_
      refine WL.gT rfl rfl ?_
      refine WL.val (Val.moveI rfl) rfl ?_
      refine WL.gT rfl rfl ?_
      refine WL.val (Val.fldAddr rfl) rfl ?_
      refine WL.gT rfl rfl ?_
      refine WL.val (Val.loadS rfl (Rd.own1 3 rfl rfl)) rfl ?_
      refine WL.gT rfl rfl ?_
      refine WL.val (Val.len rfl) rfl ?_
      refine WL.gT rfl rfl ?_
      refine WL.val (Val.moveI rfl) rfl ?_
      refine WL.gT rfl rfl ?_
      refine WL.val (Val.sub rfl rfl (wrap_i64 (by omega) (by omega))) rfl ?_
      refine WL.gT rfl rfl ?_
      refine WL.val (Val.gtr rfl rfl (decide_eq_true (by omega))) rfl ?_
      refine WL.val (Val.pick rfl) rfl ?_
      refine WL.nil ?_
      refine WX.thenC ?_
      refine WC.condT rfl ?_
      refine WC.seq ?_
      refine WC.region ?_
      refine WL.val (Val.ldO 1 rfl rfl rfl) rfl ?_
      refine WL.stA 2 rfl rfl rfl rfl ?_
      refine WL.val (Val.assignI rfl) rfl ?_
      refine WL.nil ?_
      refine WX.thenC ?_
      refine WC.ret ?_
      refine WX.thenRet ?_
      apply WX.doneP (ks := [])
      case hres => exact RunRes.r2 rfl (ResIs.cellL 2 rfl rfl rfl) (ResIs.tmpI rfl)
      case hI => first | exact Mem.le.refl _ | assumption
      exact ⟨rfl, _, rfl, htv⟩
  rw [if_neg hx] at hwr
  obtain ⟨ix, rfl⟩ : ∃ k : Nat, index = k := ⟨index.toNat, by omega⟩
  obtain ⟨cn, rfl⟩ : ∃ k : Nat, count = k := ⟨count.toNat, by omega⟩
  have hix : ix + cn ≤ p.kids.length := by omega
  simp only [Int.toNat_natCast] at hwr
  refine WL.val (Val.moveT rfl) rfl ?_
  refine WL.val (Val.extractA rfl rfl) rfl ?_
  refine WL.val (Val.extractB rfl rfl) rfl ?_
  (refine WL.alloc rfl ?_; intro _)
  refine WL.nApp ?_
  refine WL.stA 3 rfl rfl rfl rfl ?_
  refine WL.val (Val.assignB rfl) rfl ?_
  refine WL.nil ?_
  refine WX.thenC ?_
  refine WC.seq ?_
  refine WC.seq ?_
  refine WC.region ?_
  refine WL.val (Val.moveB rfl) rfl ?_
  refine WL.val (Val.not rfl) rfl ?_
  refine WL.nil ?_
  refine WX.thenC ?_
  refine WC.condF rfl ?_
  refine WC.skip ?_
  refine WX.thenC ?_
  refine WC.seq ?_
  refine WC.seq ?_
  refine WC.region ?_
  refine WL.val (Val.fldAddr rfl) rfl ?_
  refine WL.val (Val.loadS rfl (Rd.own1 3 rfl rfl)) rfl ?_
  refine WL.val (Val.not rfl) rfl ?_
  refine WL.nil ?_
  refine WX.thenC ?_
  refine WC.condF rfl ?_
  refine WC.skip ?_
  refine WX.thenC ?_
  refine WC.seq ?_
  refine WC.seq ?_
  refine WC.region ?_
  refine WL.val (Val.moveI rfl) rfl ?_
  refine WL.val (Val.lss rfl rfl (decide_eq_false (by omega))) rfl ?_
  refine WL.val (Val.moveB rfl) rfl ?_
  refine WL.gT rfl rfl ?_
  refine WL.val (Val.moveI rfl) rfl ?_
  refine WL.gT rfl rfl ?_
  refine WL.val (Val.lss rfl rfl (decide_eq_false (by omega))) rfl ?_
  refine WL.val (Val.pick rfl) rfl ?_
  refine WL.val (Val.moveB rfl) rfl ?_
  refine WL.gT rfl rfl ?_
  refine WL.val (Val.moveI rfl) rfl ?_
  refine WL.gT rfl rfl ?_
  refine WL.val (Val.fldAddr rfl) rfl ?_
  refine WL.gT rfl rfl ?_
  refine WL.val (Val.loadS rfl (Rd.own1 3 rfl rfl)) rfl ?_
  refine WL.gT rfl rfl ?_
  refine WL.val (Val.len rfl) rfl ?_
  refine WL.gT rfl rfl ?_
  refine WL.val (Val.gtr rfl rfl (decide_eq_false (by omega))) rfl ?_
  refine WL.val (Val.pick rfl) rfl ?_
  refine WL.val (Val.moveB rfl) rfl ?_
  refine WL.gT rfl rfl ?_
  refine WL.val (Val.moveI rfl) rfl ?_
  refine WL.gT rfl rfl ?_
  refine WL.val (Val.fldAddr rfl) rfl ?_
  refine WL.gT rfl rfl ?_
  refine WL.val (Val.loadS rfl (Rd.own1 3 rfl rfl)) rfl ?_
  refine WL.gT rfl rfl ?_
  refine WL.val (Val.len rfl) rfl ?_
  refine WL.gT rfl rfl ?_
  refine WL.val (Val.moveI rfl) rfl ?_
  refine WL.gT rfl rfl ?_
  refine WL.val (Val.sub rfl rfl (wrap_i64 (by omega) (by omega))) rfl ?_
  refine WL.gT rfl rfl ?_
  refine WL.val (Val.gtr rfl rfl (decide_eq_false (by omega))) rfl ?_
  refine WL.val (Val.pick rfl) rfl ?_
  refine WL.nil ?_
  refine WX.thenC ?_
  refine WC.condF rfl ?_
  refine WC.skip ?_
  refine WX.thenC ?_
  refine WC.seq ?_
  refine WC.region ?_
  refine WL.val (Val.ldO 1 rfl rfl rfl) rfl ?_
  refine WL.val (Val.moveI rfl) rfl ?_
  refine WL.callS rfl rfl (rDepth parent _ top (Nat.le_refl _) _ _ hbt hit htv) rfl ?_
  rintro _ rfl
  refine WL.val (Val.add rfl rfl (wrap_i64 (by omega) (by omega))) rfl ?_
  refine WL.val (Val.assignI rfl) rfl ?_
  refine WL.nil ?_
  refine WX.thenC ?_
  refine WC.seq ?_
  refine WC.seq ?_
  refine WC.region ?_
  refine WL.val (Val.ldO 1 rfl rfl rfl) rfl ?_
  refine WL.val (Val.moveI rfl) rfl ?_
  refine WL.val (Val.build (cs := [vi i, .bool true, .slice none 0 0]) rfl) rfl ?_
  refine WL.val (Val.moveI rfl) rfl ?_
  refine WL.callS rfl rfl (rFits top (.mk i true []) _ (.slice none 0 0) _ _ hbt (by simp [Nd.size, Nd.sizes]) hit htv hi (LsAt.nil _ _) (by omega) (by omega)) rfl ?_
  rintro _ rfl
  by_cases hf : Nd.fits top (.mk i true []) (Nd.depth parent top + 1) = 0
  case neg =>
    rw [if_pos hf] at hwr
    refine WL.val (Val.assignI rfl) rfl ?_
    refine WL.nil ?_
    refine WX.thenC ?_
    refine WC.seq ?_
    refine WC.region ?_
    refine WL.val (Val.moveI rfl) rfl ?_
    refine WL.val (Val.neq rfl rfl (bne_iff_ne.2 (by omega))) rfl ?_
    refine WL.nil ?_
    refine WX.thenC ?_
    refine WC.condT rfl ?_
    refine WC.seq ?_
    refine WC.region ?_
    refine WL.val (Val.ldO 1 rfl rfl rfl) rfl ?_
    refine WL.val (Val.moveI rfl) rfl ?_
    refine WL.stA 2 rfl rfl rfl rfl ?_
    refine WL.val (Val.assignI rfl) rfl ?_
    refine WL.nil ?_
    refine WX.thenC ?_
    refine WC.ret ?_
    refine WX.thenRet ?_
    apply WX.doneP (ks := [])
    case hres => exact RunRes.r2 rfl (ResIs.cellL 2 rfl rfl rfl) (ResIs.tmpI rfl)
    case hI => first | exact Mem.le.refl _ | assumption
    rw [hwr]
    exact ⟨rfl, _, rfl, htv⟩
  rw [hf, if_neg (by decide)] at hwr
  rw [hf]
  refine WL.val (Val.assignI rfl) rfl ?_
  refine WL.nil ?_
  refine WX.thenC ?_
  refine WC.seq ?_
  refine WC.region ?_
  refine WL.val (Val.moveI rfl) rfl ?_
  refine WL.val (Val.neq rfl rfl (bne_eq_false_iff_eq.2 (by omega))) rfl ?_
  refine WL.nil ?_
  refine WX.thenC ?_
  refine WC.condF rfl ?_
  refine WC.skip ?_
  refine WX.thenC ?_
  refine WC.seq ?_
  refine WC.region ?_
  refine WL.val (Val.moveI rfl) rfl ?_
  refine WL.val (Val.fldAddr rfl) rfl ?_
  refine WL.val (Val.loadS rfl (Rd.own1 3 rfl rfl)) rfl ?_
  refine WL.val (Val.moveI rfl) rfl ?_
  refine WL.val (Val.moveI rfl) rfl ?_
  refine WL.val (Val.moveI rfl) rfl ?_
  refine WL.val (Val.add rfl rfl (wrap_i64 (by omega) (by omega))) rfl ?_
  refine WL.callP [] rfl rfl (rPart p.kids _ ix (ix + cn) _ hpk (by omega) (by omega) (by omega)) rfl ?_
  rintro v Ib _ hIb ⟨rfl, hgk⟩
  rw [Nat.add_sub_cancel_left] at hgk
  have hgs : (Nd.mk i true ((p.kids.drop ix).take cn)).size ≤ 1 + p.size := by
    have h1 := Nd.sizes_take (p.kids.drop ix) cn
    have h2 := Nd.sizes_drop p.kids ix
    simp only [Nd.size]
    omega
  have hgg : (Nd.mk i true ((p.kids.drop ix).take cn)).grp = true := rfl
  have hgi : (Nd.mk i true ((p.kids.drop ix).take cn)).id = i := rfl
  have hgq : (Nd.mk i true ((p.kids.drop ix).take cn)).kids = (p.kids.drop ix).take cn := rfl
  rw [← hgq] at hgk
  generalize Nd.mk i true ((p.kids.drop ix).take cn) = n at *
  clear hgq
  have hgh := Nd.height_le n
  have hgk0 := hgk
  obtain ⟨a4, c4, rfl⟩ := hgk.sl
  have hnd : Nd.Rp Ib n [vi n.id, .bool n.grp, .slice a4 n.kids.length c4] := Nd.rep_iff.2 ⟨by rw [hgi]; exact hi, _, rfl, hgk⟩
  rw [hgg, hgi] at hnd
  refine WL.nApp ?_
  skip
  refine WL.val (Val.build (cs := [vi i, .bool true, .slice a4 n.kids.length c4]) rfl) rfl ?_
  (refine WL.alloc rfl ?_; intro _)
  refine WL.nApp ?_
  refine WL.stA 4 rfl rfl rfl rfl ?_
  refine WL.nil ?_
  refine WX.thenC ?_
  refine WC.seq ?_
  refine WC.seq ?_
  refine WC.region ?_
  refine WL.val (Val.moveI rfl) rfl ?_
  refine WL.val (Val.ldO 4 rfl rfl rfl) rfl ?_
  refine WL.callS rfl (by rw [← hgg, ← hgi]; rfl) (rHeight _ n (Nat.le_refl _) _ _ (by omega) (by rw [hgi]; exact hi) hgk) rfl ?_
  rintro _ rfl
  have htv1 := htv.mono hIb
  by_cases h35 : 64 < Nd.depth parent top + 1 + n.height - 1
  · rw [if_pos h35] at hwr
    refine WL.val (Val.add rfl rfl (wrap_i64 (by omega) (by omega))) rfl ?_
    refine WL.val (Val.sub rfl rfl (wrap_i64 (by omega) (by omega))) rfl ?_
    refine WL.val (Val.gtr rfl rfl (decide_eq_true (by omega))) rfl ?_
    refine WL.nil ?_
    refine WX.thenC ?_
    refine WC.condT rfl ?_
    refine WC.seq ?_
    refine WC.region ?_
    refine WL.val (Val.ldO 1 rfl rfl rfl) rfl ?_
    refine WL.stA 2 rfl rfl rfl rfl ?_
    refine WL.val (Val.assignI rfl) rfl ?_
    refine WL.nil ?_
    refine WX.thenC ?_
    refine WC.ret ?_
    refine WX.thenRet ?_
    apply WX.doneP (ks := [])
    case hres => exact RunRes.r2 rfl (ResIs.cellL 2 rfl rfl rfl) (ResIs.tmpI rfl)
    case hI => first | exact Mem.le.refl _ | assumption
    rw [hwr]
    exact ⟨rfl, _, rfl, htv1⟩
  rw [if_neg h35] at hwr
  have hpk1 := hpk.mono hIb
  have hjl : [(p.kids.drop 0).take (ix - 0), [n], (p.kids.drop (ix + cn)).take (p.kids.length - (ix + cn))].flatten = p.kids.take ix ++ (n :: p.kids.drop (ix + cn)) := by
    simp only [List.flatten_cons, List.flatten_nil, List.append_nil, List.drop_zero, Nat.sub_zero, List.singleton_append]
    rw [List.take_of_length_le (l := p.kids.drop (ix + cn)) (by rw [List.length_drop]; omega)]
  have hln : (p.kids.take ix ++ (n :: p.kids.drop (ix + cn))).length ≤ p.kids.length + 1 := by
    rw [List.length_append, List.length_cons, List.length_take, List.length_drop]; omega
  refine WL.val (Val.add rfl rfl (wrap_i64 (by omega) (by omega))) rfl ?_
  refine WL.val (Val.sub rfl rfl (wrap_i64 (by omega) (by omega))) rfl ?_
  refine WL.val (Val.gtr rfl rfl (decide_eq_false (by omega))) rfl ?_
  refine WL.nil ?_
  refine WX.thenC ?_
  refine WC.condF rfl ?_
  refine WC.skip ?_
  refine WX.thenC ?_
  refine WC.seq ?_
  refine WC.drawK 999 Ib [1, 2, 2] rfl (by kernel_rfl) rfl rfl ?_
  refine WA.take 0 rfl (by kernel_rfl) rfl (fun w h => (h.sub [1, 2, 2] rfl)) (Val.ldO 0 rfl rfl rfl) rfl ?_
  refine WA.take 1 rfl (by kernel_rfl) rfl (fun w h => (h.sub [1, 2, 2] rfl)) (Val.moveI rfl) rfl ?_
  refine WA.take 2 rfl (by kernel_rfl) rfl (fun w h => (h.sub [1, 2, 2] rfl)) (Val.fldAddr rfl) rfl ?_
  refine WA.take 3 rfl (by kernel_rfl) rfl (fun w h => (h.sub [1, 2, 2] rfl)) (Val.loadS rfl (Rd.own1 1 rfl rfl)) rfl ?_
  refine WA.take 4 rfl (by kernel_rfl) rfl (fun w h => (h.sub [1, 2, 2] rfl)) (Val.moveI rfl) rfl ?_
  refine WA.take 6 rfl (by kernel_rfl) rfl (fun w h => (h.sub [1, 2, 2] rfl)) (Val.ldO 2 rfl rfl rfl) rfl ?_
  refine WA.take 8 rfl (by kernel_rfl) rfl (fun w h => (h.sub [1, 2, 2] rfl)) (Val.fldAddr rfl) rfl ?_
  refine WA.take 9 rfl (by kernel_rfl) rfl (fun w h => (h.sub [1, 2, 2] rfl)) (Val.loadS rfl (Rd.own1 1 rfl rfl)) rfl ?_
  refine WA.take 10 rfl (by kernel_rfl) rfl (fun w h => (h.sub [1, 2, 2] rfl)) (Val.moveI rfl) rfl ?_
  refine WA.take 11 rfl (by kernel_rfl) rfl (fun w h => (h.sub [1, 2, 2] rfl)) (Val.moveI rfl) rfl ?_
  refine WA.take 12 rfl (by kernel_rfl) rfl (fun w h => (h.sub [1, 2, 2] rfl)) (Val.add rfl rfl (wrap_i64 (by omega) (by omega))) rfl ?_
  refine WA.take 13 rfl (by kernel_rfl) rfl (fun w h => (h.sub [1, 2, 2] rfl)) (Val.fldAddr rfl) rfl ?_
  refine WA.take 14 rfl (by kernel_rfl) rfl (fun w h => (h.sub [1, 2, 2] rfl)) (Val.loadS rfl (Rd.own1 1 rfl rfl)) rfl ?_
  refine WA.take 15 rfl (by kernel_rfl) rfl (fun w h => (h.sub [1, 2, 2] rfl)) (Val.len rfl) rfl ?_
  refine WA.eff2 (i := 5) (j := 7) (by kernel_rfl) rfl rfl rfl rfl ?_ ?_
  · skip
    refine WL.callP [] rfl rfl (rPart p.kids _ 0 ix _ (hpk1.mono (Mem.le.refl _)) (by omega) (by omega) (by omega)) rfl ?_
    rintro v1 I1 _ hI1 ⟨rfl, ha⟩
    have ha0 := ha
    obtain ⟨aa, ca, rfl⟩ := ha.sl
    refine WL.nApp ?_
    have hJ1 := ((Mem.le.refl _)).trans hI1
    refine WL.nil ?_
    refine WK.anyStep (fun w h => (h.sub [1, 2, 2] rfl).less ((hJ1))) ?_
    refine WA.eff2 (i := 7) (j := 16) (by kernel_rfl) rfl rfl rfl rfl ?_ ?_
    · skip
      (refine WL.buildSlice (by with_unfolding_all exact rfl) rfl (by with_unfolding_all exact rfl) rfl ?_; intro _)
      rename_i gl
      refine WL.nApp ?_
      refine WL.lit (R := Nd.Rp) (sz := 3) (l := [n]) (css := [[vi i, .bool true, .slice a4 n.kids.length c4]]) 5 rfl ⟨Nd.rp_mono hnd (hJ1), trivial⟩ rfl (show 1 ≤ maxLen by decide) fun I2 hI2 hb => ?_
      replace ha := ha.mono hI2
      have hJ2 := (hJ1).trans hI2
      refine WL.nil ?_
      refine WK.anyStep (fun w h => (h.sub [1, 2, 2] rfl).less ((hJ2))) ?_
      refine WA.eff1 (i := 16) (by kernel_rfl) rfl rfl ?_
      refine WL.callP [] rfl rfl (rPart p.kids _ (ix + cn) p.kids.length _ (hpk1.mono hJ2) (by omega) (by omega) (by omega)) rfl ?_
      rintro v3 I3 _ hI3 ⟨rfl, hc⟩
      have hc0 := hc
      obtain ⟨ac, cc, rfl⟩ := hc.sl
      refine WL.nApp ?_
      replace ha := ha.mono hI3
      replace hb := hb.mono hI3
      have hJ3 := (hJ2).trans hI3
      refine WL.nil ?_
      refine WK.anyStep (fun w h => (h.sub [1, 2, 2] rfl).less ((hJ3))) ?_
      refine WA.eff1 (i := 17) (by kernel_rfl) rfl rfl ?_
      (refine WL.buildSlice (by with_unfolding_all exact rfl) rfl (by with_unfolding_all exact rfl) rfl ?_; intro _)
      rename_i gb
      refine WL.nApp ?_
      refine WL.lit (R := Rl) (sz := 1) (l := [(p.kids.drop 0).take (ix - 0), [n], (p.kids.drop (ix + cn)).take (p.kids.length - (ix + cn))]) (css := [[_], [_], [_]]) 5 rfl ⟨⟨_, rfl, ha⟩, ⟨_, rfl, hb⟩, ⟨_, rfl, hc⟩, trivial⟩ rfl (show 3 ≤ maxLen by decide) fun I4 hI4 hl => ?_
      have hJ4 := (hJ3).trans hI4
      refine WL.nil ?_
      refine WK.anyStep (fun w h => (h.sub [1, 2, 2] rfl).less ((hJ4))) ?_
      refine WA.eff1 (i := 18) (by kernel_rfl) rfl rfl ?_
      refine WL.callP [] rfl rfl (rJoin _ _ _ hl (by rw [hjl]; omega)) rfl ?_
      rintro v I5 _ hI5 ⟨rfl, hw⟩
      have hJ5 := (hJ4).trans hI5
      rw [hjl] at hw
      have hw0 := hw
      obtain ⟨aw, cw, rfl⟩ := hw.sl
      refine WL.nApp ?_
      refine WL.nil ?_
      refine WK.anyStep (fun w h => (h.sub [1, 2, 2] rfl).less ((hJ5))) ?_
      refine WA.eff1 (i := 19) (by kernel_rfl) rfl rfl ?_
      refine WL.callP [] rfl rfl (rWith parent _ _ top (Nat.le_refl _) _ _ _ hbt hit (htv1.mono hJ5) hw) rfl ?_
      rintro v I6 _ hI6 ⟨rfl, kw, rfl, hr⟩
      have hJ6 := (hJ5).trans hI6
      have hr0 := hr
      obtain ⟨ar, cr, rfl⟩ := hr.sl
      refine WL.nApp ?_
      refine WL.nil ?_
      refine WK.anyStep (fun w h => (h.sub [1, 2, 2] rfl).less ((hJ6))) ?_
      refine WA.eff1 (i := 20) (by kernel_rfl) rfl rfl ?_
      refine WL.stA 2 rfl rfl rfl rfl ?_
      refine WL.nil ?_
      refine WK.anyStep (fun w h => (h.sub [1, 2, 2] rfl).less ((hJ6))) ?_
      refine WA.take 21 rfl (by kernel_rfl) rfl (fun w h => (h.sub [1, 2, 2] rfl).less ((hJ6))) (Val.assignI rfl) rfl ?_
      refine WA.done (by kernel_rfl) ?_
      refine WX.thenC ?_
      refine WC.ret ?_
      have hK := hIb.trans hJ6
      apply WX.doneP (ks := [])
      case hres => exact RunRes.r2 rfl (ResIs.cellL 2 rfl rfl rfl) (ResIs.tmpI rfl)
      case hI => first | exact Mem.le.refl _ | assumption
      rw [hwr]
      exact ⟨rfl, _, rfl, hr⟩
    · skip
      refine WL.callP [] rfl rfl (rPart p.kids _ (ix + cn) p.kids.length _ (hpk1.mono hJ1) (by omega) (by omega) (by omega)) rfl ?_
      rintro v2 I2 _ hI2 ⟨rfl, hc⟩
      have hc0 := hc
      obtain ⟨ac, cc, rfl⟩ := hc.sl
      refine WL.nApp ?_
      replace ha := ha.mono hI2
      have hJ2 := (hJ1).trans hI2
      refine WL.nil ?_
      refine WK.anyStep (fun w h => (h.sub [1, 2, 2] rfl).less ((hJ2))) ?_
      refine WA.eff1 (i := 7) (by kernel_rfl) rfl rfl ?_
      (refine WL.buildSlice (by with_unfolding_all exact rfl) rfl (by with_unfolding_all exact rfl) rfl ?_; intro _)
      rename_i gl
      refine WL.nApp ?_
      refine WL.lit (R := Nd.Rp) (sz := 3) (l := [n]) (css := [[vi i, .bool true, .slice a4 n.kids.length c4]]) 5 rfl ⟨Nd.rp_mono hnd (hJ2), trivial⟩ rfl (show 1 ≤ maxLen by decide) fun I3 hI3 hb => ?_
      replace ha := ha.mono hI3
      replace hc := hc.mono hI3
      have hJ3 := (hJ2).trans hI3
      refine WL.nil ?_
      refine WK.anyStep (fun w h => (h.sub [1, 2, 2] rfl).less ((hJ3))) ?_
      refine WA.eff1 (i := 17) (by kernel_rfl) rfl rfl ?_
      (refine WL.buildSlice (by with_unfolding_all exact rfl) rfl (by with_unfolding_all exact rfl) rfl ?_; intro _)
      rename_i gb
      refine WL.nApp ?_
      refine WL.lit (R := Rl) (sz := 1) (l := [(p.kids.drop 0).take (ix - 0), [n], (p.kids.drop (ix + cn)).take (p.kids.length - (ix + cn))]) (css := [[_], [_], [_]]) 5 rfl ⟨⟨_, rfl, ha⟩, ⟨_, rfl, hb⟩, ⟨_, rfl, hc⟩, trivial⟩ rfl (show 3 ≤ maxLen by decide) fun I4 hI4 hl => ?_
      have hJ4 := (hJ3).trans hI4
      refine WL.nil ?_
      refine WK.anyStep (fun w h => (h.sub [1, 2, 2] rfl).less ((hJ4))) ?_
      refine WA.eff1 (i := 18) (by kernel_rfl) rfl rfl ?_
      refine WL.callP [] rfl rfl (rJoin _ _ _ hl (by rw [hjl]; omega)) rfl ?_
      rintro v I5 _ hI5 ⟨rfl, hw⟩
      have hJ5 := (hJ4).trans hI5
      rw [hjl] at hw
      have hw0 := hw
      obtain ⟨aw, cw, rfl⟩ := hw.sl
      refine WL.nApp ?_
      refine WL.nil ?_
      refine WK.anyStep (fun w h => (h.sub [1, 2, 2] rfl).less ((hJ5))) ?_
      refine WA.eff1 (i := 19) (by kernel_rfl) rfl rfl ?_
      refine WL.callP [] rfl rfl (rWith parent _ _ top (Nat.le_refl _) _ _ _ hbt hit (htv1.mono hJ5) hw) rfl ?_
      rintro v I6 _ hI6 ⟨rfl, kw, rfl, hr⟩
      have hJ6 := (hJ5).trans hI6
      have hr0 := hr
      obtain ⟨ar, cr, rfl⟩ := hr.sl
      refine WL.nApp ?_
      refine WL.nil ?_
      refine WK.anyStep (fun w h => (h.sub [1, 2, 2] rfl).less ((hJ6))) ?_
      refine WA.eff1 (i := 20) (by kernel_rfl) rfl rfl ?_
      refine WL.stA 2 rfl rfl rfl rfl ?_
      refine WL.nil ?_
      refine WK.anyStep (fun w h => (h.sub [1, 2, 2] rfl).less ((hJ6))) ?_
      refine WA.take 21 rfl (by kernel_rfl) rfl (fun w h => (h.sub [1, 2, 2] rfl).less ((hJ6))) (Val.assignI rfl) rfl ?_
      refine WA.done (by kernel_rfl) ?_
      refine WX.thenC ?_
      refine WC.ret ?_
      have hK := hIb.trans hJ6
      apply WX.doneP (ks := [])
      case hres => exact RunRes.r2 rfl (ResIs.cellL 2 rfl rfl rfl) (ResIs.tmpI rfl)
      case hI => first | exact Mem.le.refl _ | assumption
      rw [hwr]
      exact ⟨rfl, _, rfl, hr⟩
  · skip
    (refine WL.buildSlice (by with_unfolding_all exact rfl) rfl (by with_unfolding_all exact rfl) rfl ?_; intro _)
    rename_i gl
    refine WL.nApp ?_
    refine WL.lit (R := Nd.Rp) (sz := 3) (l := [n]) (css := [[vi i, .bool true, .slice a4 n.kids.length c4]]) 5 rfl ⟨Nd.rp_mono hnd ((Mem.le.refl _)), trivial⟩ rfl (show 1 ≤ maxLen by decide) fun I1 hI1 hb => ?_
    have hJ1 := ((Mem.le.refl _)).trans hI1
    refine WL.nil ?_
    refine WK.anyStep (fun w h => (h.sub [1, 2, 2] rfl).less ((hJ1))) ?_
    refine WA.eff1 (i := 5) (by kernel_rfl) rfl rfl ?_
    refine WL.callP [] rfl rfl (rPart p.kids _ 0 ix _ (hpk1.mono hJ1) (by omega) (by omega) (by omega)) rfl ?_
    rintro v2 I2 _ hI2 ⟨rfl, ha⟩
    have ha0 := ha
    obtain ⟨aa, ca, rfl⟩ := ha.sl
    refine WL.nApp ?_
    replace hb := hb.mono hI2
    have hJ2 := (hJ1).trans hI2
    refine WL.nil ?_
    refine WK.anyStep (fun w h => (h.sub [1, 2, 2] rfl).less ((hJ2))) ?_
    refine WA.eff1 (i := 16) (by kernel_rfl) rfl rfl ?_
    refine WL.callP [] rfl rfl (rPart p.kids _ (ix + cn) p.kids.length _ (hpk1.mono hJ2) (by omega) (by omega) (by omega)) rfl ?_
    rintro v3 I3 _ hI3 ⟨rfl, hc⟩
    have hc0 := hc
    obtain ⟨ac, cc, rfl⟩ := hc.sl
    refine WL.nApp ?_
    replace ha := ha.mono hI3
    replace hb := hb.mono hI3
    have hJ3 := (hJ2).trans hI3
    refine WL.nil ?_
    refine WK.anyStep (fun w h => (h.sub [1, 2, 2] rfl).less ((hJ3))) ?_
    refine WA.eff1 (i := 17) (by kernel_rfl) rfl rfl ?_
    (refine WL.buildSlice (by with_unfolding_all exact rfl) rfl (by with_unfolding_all exact rfl) rfl ?_; intro _)
    rename_i gb
    refine WL.nApp ?_
    refine WL.lit (R := Rl) (sz := 1) (l := [(p.kids.drop 0).take (ix - 0), [n], (p.kids.drop (ix + cn)).take (p.kids.length - (ix + cn))]) (css := [[_], [_], [_]]) 5 rfl ⟨⟨_, rfl, ha⟩, ⟨_, rfl, hb⟩, ⟨_, rfl, hc⟩, trivial⟩ rfl (show 3 ≤ maxLen by decide) fun I4 hI4 hl => ?_
    have hJ4 := (hJ3).trans hI4
    refine WL.nil ?_
    refine WK.anyStep (fun w h => (h.sub [1, 2, 2] rfl).less ((hJ4))) ?_
    refine WA.eff1 (i := 18) (by kernel_rfl) rfl rfl ?_
    refine WL.callP [] rfl rfl (rJoin _ _ _ hl (by rw [hjl]; omega)) rfl ?_
    rintro v I5 _ hI5 ⟨rfl, hw⟩
    have hJ5 := (hJ4).trans hI5
    rw [hjl] at hw
    have hw0 := hw
    obtain ⟨aw, cw, rfl⟩ := hw.sl
    refine WL.nApp ?_
    refine WL.nil ?_
    refine WK.anyStep (fun w h => (h.sub [1, 2, 2] rfl).less ((hJ5))) ?_
    refine WA.eff1 (i := 19) (by kernel_rfl) rfl rfl ?_
    refine WL.callP [] rfl rfl (rWith parent _ _ top (Nat.le_refl _) _ _ _ hbt hit (htv1.mono hJ5) hw) rfl ?_
    rintro v I6 _ hI6 ⟨rfl, kw, rfl, hr⟩
    have hJ6 := (hJ5).trans hI6
    have hr0 := hr
    obtain ⟨ar, cr, rfl⟩ := hr.sl
    refine WL.nApp ?_
    refine WL.nil ?_
    refine WK.anyStep (fun w h => (h.sub [1, 2, 2] rfl).less ((hJ6))) ?_
    refine WA.eff1 (i := 20) (by kernel_rfl) rfl rfl ?_
    refine WL.stA 2 rfl rfl rfl rfl ?_
    refine WL.nil ?_
    refine WK.anyStep (fun w h => (h.sub [1, 2, 2] rfl).less ((hJ6))) ?_
    refine WA.take 21 rfl (by kernel_rfl) rfl (fun w h => (h.sub [1, 2, 2] rfl).less ((hJ6))) (Val.assignI rfl) rfl ?_
    refine WA.done (by kernel_rfl) ?_
    refine WX.thenC ?_
    refine WC.ret ?_
    have hK := hIb.trans hJ6
    apply WX.doneP (ks := [])
    case hres => exact RunRes.r2 rfl (ResIs.cellL 2 rfl rfl rfl) (ResIs.tmpI rfl)
    case hI => first | exact Mem.le.refl _ | assumption
    rw [hwr]
    exact ⟨rfl, _, rfl, hr⟩
end Go.Proofs.Ytfdeckdongonnab

/-
  Tree, the walks: the document's functions (9): unwrap.
-/

namespace Go.Tr
open Go.Sl Go.Ls
namespace Nd
/-- Unwrap, as the document has it. -/
def unwrap (top : Nd) (i : Int) : Nd × Int × Int × Int × Int :=
  if (remove top i).2.2.2.2 ≠ 0 then (top, 0, 0, 0, (remove top i).2.2.2.2)
  else if (remove top i).2.1.grp = false then (top, 0, 0, 0, 33)
  else (with_ (remove top i).2.2.1 (((find (remove top i).2.2.1 top).getD zero).kids.take (remove top i).2.2.2.1.toNat ++ ((remove top i).2.1.kids ++ ((find (remove top i).2.2.1 top).getD zero).kids.drop ((remove top i).2.2.2.1.toNat + 1))) top, (remove top i).2.2.1, (remove top i).2.2.2.1, (remove top i).2.1.kids.length, 0)
theorem remove_ok (top : Nd) (i : Int) (h : Has top i) (h0 : (remove top i).2.2.2.2 = 0) : ∃ k : Nat, ∃ p, (remove top i).2.2.2.1 = (k : Int) ∧ find (remove top i).2.2.1 top = some p ∧ k < p.kids.length := by
  by_cases hi : i = 0
  · rw [remove, if_pos hi] at h0; exact absurd h0 (by show ¬ (30 : Int) = 0; decide)
  cases hf : find i top with
  | none => rw [remove, if_neg hi, hf] at h0; exact absurd h0 (by show ¬ (31 : Int) = 0; decide)
  | some n =>
    obtain ⟨q, k, m, h1, h2, h3⟩ := h hi n hf
    have hr : remove top i = (with_ q (m.kids.take k ++ m.kids.drop (k + 1)) top, n, q, (k : Int), 0) := by
      rw [remove, if_neg hi, hf]
      simp only [h1, h2, Int.toNat_natCast]
    rw [hr]
    exact ⟨k, m, rfl, h2, h3⟩
end Nd
end Go.Tr
namespace Go.Proofs.Ytfdeckdongonnab
open Go.Sl Go.Ls Go.Tr
set_option maxRecDepth 100000
set_option maxHeartbeats 4000000
set_option linter.unusedVariables false
attribute [local irreducible] WC WL WX WK WA WAK Val Ctr RunRes ResIs Rd At sl box pt Exit.then Exit.inBlock bodyPost Code.wp wpList
def RetU (r : Nd × Int × Int × Int × Int) : Value → Mem → List HP → Prop := fun v I' L' => L' = [] ∧ ∃ kv, v = .tuple #[.agg #[vi r.1.id, .bool r.1.grp, kv], vi r.2.1, vi r.2.2.1, vi r.2.2.2.1, vi r.2.2.2.2] ∧ LsAt Nd.Rp I' r.1.kids kv
theorem rUnwrap (top : Nd) (tv : Value) (i : Int) (I : Mem) (hbt : top.size ≤ 1000000000) (hit : I64 top.id) (htv : LsAt Nd.Rp I top.kids tv) (hhas : Nd.Has top i) :
    Ctr Try.prog 54 [.agg #[vi top.id, .bool top.grp, tv], vi i] I [] (RetU (Nd.unwrap top i)) := by
  have hmv : ∀ x, Nd.remove top i = x → Nd.unwrap top i = if x.2.2.2.2 ≠ 0 then (top, 0, 0, 0, x.2.2.2.2)
      else if x.2.1.grp = false then (top, 0, 0, 0, 33)
      else (Nd.with_ x.2.2.1 (((Nd.find x.2.2.1 top).getD Nd.zero).kids.take x.2.2.2.1.toNat ++ (x.2.1.kids ++ ((Nd.find x.2.2.1 top).getD Nd.zero).kids.drop (x.2.2.2.1.toNat + 1))) top, x.2.2.1, x.2.2.2.1, (x.2.1.kids.length : Int), 0) := by
    intro x hx
    subst hx
    rfl
  have hrs := Nd.remove_size top i
  have hok := Nd.remove_ok top i hhas
  have hri := Nd.remove_id top i
  replace hbt : top.size ≤ 1099511627776 ∧ top.size ≤ 1000000000 := ⟨by omega, hbt⟩
  obtain ⟨hbt, hbt1⟩ := hbt
  have htv0 := htv
  obtain ⟨a9, c9, rfl⟩ := htv.sl
  have hcall := rRemove top _ i I hbt1 hit htv hhas
  generalize hx : Nd.remove top i = x at *
  have hmv := hmv x rfl
  obtain ⟨wo, n, q, k0, e⟩ := x
  simp only at hmv hrs hri hok
  have hcall : Ctr Try.prog 51 [.agg #[vi top.id, .bool top.grp, .slice a9 top.kids.length c9], vi i] I [] (fun v I' L' => L' = [] ∧ ∃ kv kw, v = .tuple #[.agg #[vi wo.id, .bool wo.grp, kv], .agg #[vi n.id, .bool n.grp, kw], vi q, vi k0, vi e] ∧ LsAt Nd.Rp I' wo.kids kv ∧ LsAt Nd.Rp I' n.kids kw ∧ I64 n.id) := hcall
  have hsn := sizes_lt n
  have hnn := Nd.len_le_sizes n.kids
  refine Ctr.intro Try.func54 rfl rfl rfl fun E F => ?_
  refine WC.seq ?_
  refine WC.region ?_
  (refine WL.boxA rfl rfl ?_; intro _)
  refine WL.nApp ?_
  (refine WL.alloc rfl ?_; intro _)
  refine WL.nApp ?_
  refine WL.val (Val.assignI rfl) rfl ?_
  refine WL.val (Val.assignI rfl) rfl ?_
  refine WL.val (Val.assignI rfl) rfl ?_
  refine WL.val (Val.assignI rfl) rfl ?_
  refine WL.nil ?_
  refine WX.thenC ?_
  refine WC.seq ?_
  refine WC.region ?_
  refine WL.val (Val.ldO 1 rfl rfl rfl) rfl ?_
  refine WL.val (Val.moveI rfl) rfl ?_
  refine WL.callP [] rfl rfl hcall rfl ?_
  rintro v Ib _ hIb ⟨rfl, wv, nv, rfl, hwk, hnk, hin⟩
  have hwk0 := hwk
  have hnk0 := hnk
  obtain ⟨a8, c8, rfl⟩ := hwk.sl
  obtain ⟨a4, c4, rfl⟩ := hnk.sl
  have htv1 := htv.mono hIb
  by_cases he : e = 0
  case neg =>
    rw [if_pos he] at hmv
    refine WL.nApp ?_
    refine WL.val (Val.moveT rfl) rfl ?_
    refine WL.val (Val.extractA rfl rfl) rfl ?_
    refine WL.val (Val.extractA rfl rfl) rfl ?_
    refine WL.val (Val.extractI rfl rfl) rfl ?_
    refine WL.val (Val.extractI rfl rfl) rfl ?_
    refine WL.val (Val.extractI rfl rfl) rfl ?_
    (refine WL.alloc rfl ?_; intro _)
    refine WL.nApp ?_
    (refine WL.alloc rfl ?_; intro _)
    refine WL.nApp ?_
    refine WL.stA 3 rfl rfl rfl rfl ?_
    refine WL.stA 4 rfl rfl rfl rfl ?_
    refine WL.val (Val.assignI rfl) rfl ?_
    refine WL.val (Val.assignI rfl) rfl ?_
    refine WL.val (Val.assignI rfl) rfl ?_
    refine WL.nil ?_
    refine WX.thenC ?_
    refine WC.seq ?_
    refine WC.seq ?_
    refine WC.region ?_
    refine WL.val (Val.moveI rfl) rfl ?_
    refine WL.val (Val.neq rfl rfl (bne_iff_ne.2 (by omega))) rfl ?_
    refine WL.nil ?_
    refine WX.thenC ?_
    refine WC.condT rfl ?_
    refine WC.seq ?_
    refine WC.region ?_
    refine WL.val (Val.ldO 1 rfl rfl rfl) rfl ?_
    refine WL.val (Val.moveI rfl) rfl ?_
    refine WL.stA 2 rfl rfl rfl rfl ?_
    refine WL.val (Val.assignI rfl) rfl ?_
    refine WL.val (Val.assignI rfl) rfl ?_
    refine WL.val (Val.assignI rfl) rfl ?_
    refine WL.val (Val.assignI rfl) rfl ?_
    refine WL.nil ?_
    refine WX.thenC ?_
    refine WC.ret ?_
    refine WX.thenRet ?_
    apply WX.doneP (ks := [])
    case hres => exact RunRes.r5 rfl (ResIs.cellL 2 rfl rfl rfl) (ResIs.tmpI rfl) (ResIs.tmpI rfl) (ResIs.tmpI rfl) (ResIs.tmpI rfl)
    case hI => first | exact Mem.le.refl _ | assumption
    rw [hmv]
    exact ⟨rfl, _, rfl, htv1⟩
  subst he
  rw [if_neg (by decide)] at hmv
  cases hg : n.grp
  · skip
    refine WL.nApp ?_
    refine WL.val (Val.moveT rfl) rfl ?_
    refine WL.val (Val.extractA rfl rfl) rfl ?_
    refine WL.val (Val.extractA rfl rfl) rfl ?_
    refine WL.val (Val.extractI rfl rfl) rfl ?_
    refine WL.val (Val.extractI rfl rfl) rfl ?_
    refine WL.val (Val.extractI rfl rfl) rfl ?_
    (refine WL.alloc rfl ?_; intro _)
    refine WL.nApp ?_
    (refine WL.alloc rfl ?_; intro _)
    refine WL.nApp ?_
    refine WL.stA 3 rfl rfl rfl rfl ?_
    refine WL.stA 4 rfl rfl rfl rfl ?_
    refine WL.val (Val.assignI rfl) rfl ?_
    refine WL.val (Val.assignI rfl) rfl ?_
    refine WL.val (Val.assignI rfl) rfl ?_
    refine WL.nil ?_
    refine WX.thenC ?_
    refine WC.seq ?_
    refine WC.seq ?_
    refine WC.region ?_
    refine WL.val (Val.moveI rfl) rfl ?_
    refine WL.val (Val.neq rfl rfl (bne_eq_false_iff_eq.2 (by omega))) rfl ?_
    refine WL.nil ?_
    refine WX.thenC ?_
    refine WC.condF rfl ?_
    refine WC.skip ?_
    refine WX.thenC ?_
    refine WC.seq ?_
    refine WC.seq ?_
    refine WC.region ?_
    refine WL.val (Val.fldAddr rfl) rfl ?_
    refine WL.val (Val.loadS rfl (Rd.own1 4 rfl rfl)) rfl ?_
    refine WL.val (Val.not rfl) rfl ?_
    refine WL.nil ?_
    refine WX.thenC ?_
    refine WC.condT rfl ?_
    refine WC.seq ?_
    refine WC.region ?_
    refine WL.val (Val.ldO 1 rfl rfl rfl) rfl ?_
    refine WL.stA 2 rfl rfl rfl rfl ?_
    refine WL.val (Val.assignI rfl) rfl ?_
    refine WL.val (Val.assignI rfl) rfl ?_
    refine WL.val (Val.assignI rfl) rfl ?_
    refine WL.val (Val.assignI rfl) rfl ?_
    refine WL.nil ?_
    refine WX.thenC ?_
    refine WC.ret ?_
    refine WX.thenRet ?_
    apply WX.doneP (ks := [])
    case hres => exact RunRes.r5 rfl (ResIs.cellL 2 rfl rfl rfl) (ResIs.tmpI rfl) (ResIs.tmpI rfl) (ResIs.tmpI rfl) (ResIs.tmpI rfl)
    case hI => first | exact Mem.le.refl _ | assumption
    rw [hmv, if_pos hg]
    exact ⟨rfl, _, rfl, htv1⟩
  rw [hg, if_neg (by decide)] at hmv
  obtain ⟨k, p, rfl, hfp, hkp⟩ := hok rfl
  rw [hfp] at hmv
  simp only [Option.getD_some, Int.toNat_natCast] at hmv
  refine WL.nApp ?_
  refine WL.val (Val.moveT rfl) rfl ?_
  refine WL.val (Val.extractA rfl rfl) rfl ?_
  refine WL.val (Val.extractA rfl rfl) rfl ?_
  refine WL.val (Val.extractI rfl rfl) rfl ?_
  refine WL.val (Val.extractI rfl rfl) rfl ?_
  refine WL.val (Val.extractI rfl rfl) rfl ?_
  (refine WL.alloc rfl ?_; intro _)
  refine WL.nApp ?_
  (refine WL.alloc rfl ?_; intro _)
  refine WL.nApp ?_
  refine WL.stA 3 rfl rfl rfl rfl ?_
  refine WL.stA 4 rfl rfl rfl rfl ?_
  refine WL.val (Val.assignI rfl) rfl ?_
  refine WL.val (Val.assignI rfl) rfl ?_
  refine WL.val (Val.assignI rfl) rfl ?_
  refine WL.nil ?_
  refine WX.thenC ?_
  refine WC.seq ?_
  refine WC.seq ?_
  refine WC.region ?_
  refine WL.val (Val.moveI rfl) rfl ?_
  refine WL.val (Val.neq rfl rfl (bne_eq_false_iff_eq.2 (by omega))) rfl ?_
  refine WL.nil ?_
  refine WX.thenC ?_
  refine WC.condF rfl ?_
  refine WC.skip ?_
  refine WX.thenC ?_
  refine WC.seq ?_
  refine WC.seq ?_
  refine WC.region ?_
  refine WL.val (Val.fldAddr rfl) rfl ?_
  refine WL.val (Val.loadS rfl (Rd.own1 4 rfl rfl)) rfl ?_
  refine WL.val (Val.not rfl) rfl ?_
  refine WL.nil ?_
  refine WX.thenC ?_
  refine WC.condF rfl ?_
  refine WC.skip ?_
  refine WX.thenC ?_
  refine WC.seq ?_
  refine WC.region ?_
  refine WL.val (Val.ldO 1 rfl rfl rfl) rfl ?_
  refine WL.val (Val.moveI rfl) rfl ?_
  refine WL.callS rfl rfl (rFind q _ top (Nat.le_refl _) _ _ hbt hit htv1) rfl ?_
  rintro _ (⟨p', pv, hp, rfl, hip, hpk⟩ | ⟨hp, rfl⟩)
  case inr => rw [hfp] at hp; cases hp
  rw [hfp] at hp
  injection hp with hp
  subst hp
  have hpk0 := hpk
  have hpl := hpk.le
  obtain ⟨a3, c3, rfl⟩ := hpk.sl
  have hps := Nd.find_size q top p hfp
  have hpz := sizes_lt p
  have hpn := Nd.len_le_sizes p.kids
  have hjl : [(p.kids.drop 0).take (k - 0), n.kids, (p.kids.drop (k + 1)).take (p.kids.length - (k + 1))].flatten = p.kids.take k ++ (n.kids ++ p.kids.drop (k + 1)) := by
    simp only [List.flatten_cons, List.flatten_nil, List.append_nil, List.drop_zero, Nat.sub_zero]
    rw [List.take_of_length_le (l := p.kids.drop (k + 1)) (by rw [List.length_drop]; omega)]
  have hln : (p.kids.take k ++ (n.kids ++ p.kids.drop (k + 1))).length ≤ p.kids.length + n.kids.length := by
    rw [List.length_append, List.length_append, List.length_take, List.length_drop]; omega
  refine WL.val (Val.moveT rfl) rfl ?_
  refine WL.val (Val.extractA rfl rfl) rfl ?_
  refine WL.val (Val.extractB rfl rfl) rfl ?_
  (refine WL.alloc rfl ?_; intro _)
  refine WL.nApp ?_
  refine WL.stA 5 rfl rfl rfl rfl ?_
  refine WL.val (Val.assignB rfl) rfl ?_
  refine WL.nil ?_
  refine WX.thenC ?_
  refine WC.seq ?_
  refine WC.drawK 999 Ib [1, 3, 3] rfl (by kernel_rfl) rfl rfl ?_
  refine WA.take 0 rfl (by kernel_rfl) rfl (fun w h => (h.sub [1, 3, 3] rfl)) (Val.ldO 0 rfl rfl rfl) rfl ?_
  refine WA.take 1 rfl (by kernel_rfl) rfl (fun w h => (h.sub [1, 3, 3] rfl)) (Val.moveI rfl) rfl ?_
  refine WA.take 2 rfl (by kernel_rfl) rfl (fun w h => (h.sub [1, 3, 3] rfl)) (Val.fldAddr rfl) rfl ?_
  refine WA.take 3 rfl (by kernel_rfl) rfl (fun w h => (h.sub [1, 3, 3] rfl)) (Val.loadS rfl (Rd.own1 2 rfl rfl)) rfl ?_
  refine WA.take 4 rfl (by kernel_rfl) rfl (fun w h => (h.sub [1, 3, 3] rfl)) (Val.moveI rfl) rfl ?_
  refine WA.take 6 rfl (by kernel_rfl) rfl (fun w h => (h.sub [1, 3, 3] rfl)) (Val.fldAddr rfl) rfl ?_
  refine WA.take 7 rfl (by kernel_rfl) rfl (fun w h => (h.sub [1, 3, 3] rfl)) (Val.loadS rfl (Rd.own1 1 rfl rfl)) rfl ?_
  refine WA.take 8 rfl (by kernel_rfl) rfl (fun w h => (h.sub [1, 3, 3] rfl)) (Val.fldAddr rfl) rfl ?_
  refine WA.take 9 rfl (by kernel_rfl) rfl (fun w h => (h.sub [1, 3, 3] rfl)) (Val.loadS rfl (Rd.own1 2 rfl rfl)) rfl ?_
  refine WA.take 10 rfl (by kernel_rfl) rfl (fun w h => (h.sub [1, 3, 3] rfl)) (Val.moveI rfl) rfl ?_
  refine WA.take 11 rfl (by kernel_rfl) rfl (fun w h => (h.sub [1, 3, 3] rfl)) (Val.add rfl rfl (wrap_i64 (by omega) (by omega))) rfl ?_
  refine WA.take 12 rfl (by kernel_rfl) rfl (fun w h => (h.sub [1, 3, 3] rfl)) (Val.fldAddr rfl) rfl ?_
  refine WA.take 13 rfl (by kernel_rfl) rfl (fun w h => (h.sub [1, 3, 3] rfl)) (Val.loadS rfl (Rd.own1 2 rfl rfl)) rfl ?_
  refine WA.take 14 rfl (by kernel_rfl) rfl (fun w h => (h.sub [1, 3, 3] rfl)) (Val.len rfl) rfl ?_
  refine WA.take 19 rfl (by kernel_rfl) rfl (fun w h => (h.sub [1, 3, 3] rfl)) (Val.moveI rfl) rfl ?_
  refine WA.take 20 rfl (by kernel_rfl) rfl (fun w h => (h.sub [1, 3, 3] rfl)) (Val.moveI rfl) rfl ?_
  refine WA.take 21 rfl (by kernel_rfl) rfl (fun w h => (h.sub [1, 3, 3] rfl)) (Val.fldAddr rfl) rfl ?_
  refine WA.take 22 rfl (by kernel_rfl) rfl (fun w h => (h.sub [1, 3, 3] rfl)) (Val.loadS rfl (Rd.own1 1 rfl rfl)) rfl ?_
  refine WA.take 23 rfl (by kernel_rfl) rfl (fun w h => (h.sub [1, 3, 3] rfl)) (Val.len rfl) rfl ?_
  refine WA.eff1 (i := 5) (by kernel_rfl) rfl rfl ?_
  refine WL.callP [] rfl rfl (rPart p.kids _ 0 k _ hpk (by omega) (by omega) (by omega)) rfl ?_
  rintro v1 I1 _ hI1 ⟨rfl, ha⟩
  have ha0 := ha
  obtain ⟨aa, ca, rfl⟩ := ha.sl
  refine WL.nApp ?_
  refine WL.nil ?_
  refine WK.anyStep (fun w h => (h.sub [1, 3, 3] rfl).less (hI1)) ?_
  refine WA.eff1 (i := 15) (by kernel_rfl) rfl rfl ?_
  refine WL.callP [] rfl rfl (rPart p.kids _ (k + 1) p.kids.length _ (hpk.mono hI1) (by omega) (by omega) (by omega)) rfl ?_
  rintro v2 I2 _ hI2 ⟨rfl, hc⟩
  have hc0 := hc
  obtain ⟨ac, cc, rfl⟩ := hc.sl
  refine WL.nApp ?_
  have hJ2 := hI1.trans hI2
  refine WL.nil ?_
  refine WK.anyStep (fun w h => (h.sub [1, 3, 3] rfl).less (hJ2)) ?_
  replace ha := ha.mono hI2
  refine WA.eff1 (i := 16) (by kernel_rfl) rfl rfl ?_
  (refine WL.buildSlice (by with_unfolding_all exact rfl) rfl (by with_unfolding_all exact rfl) rfl ?_; intro _)
  rename_i gb
  refine WL.nApp ?_
  refine WL.lit (R := Rl) (sz := 1) (l := [(p.kids.drop 0).take (k - 0), n.kids, (p.kids.drop (k + 1)).take (p.kids.length - (k + 1))]) (css := [[_], [_], [_]]) 6 rfl ⟨⟨_, rfl, ha⟩, ⟨_, rfl, hnk.mono hJ2⟩, ⟨_, rfl, hc⟩, trivial⟩ rfl (show 3 ≤ maxLen by decide) fun I3 hI3 hl => ?_
  have hJ3 := hJ2.trans hI3
  refine WL.nil ?_
  refine WK.anyStep (fun w h => (h.sub [1, 3, 3] rfl).less (hJ3)) ?_
  refine WA.eff1 (i := 17) (by kernel_rfl) rfl rfl ?_
  refine WL.callP [] rfl rfl (rJoin _ _ _ hl (by rw [hjl]; omega)) rfl ?_
  rintro v4 I4 _ hI4 ⟨rfl, hw⟩
  have hJ4 := hJ3.trans hI4
  rw [hjl] at hw
  have hw0 := hw
  obtain ⟨aw, cw, rfl⟩ := hw.sl
  refine WL.nApp ?_
  refine WL.nil ?_
  refine WK.anyStep (fun w h => (h.sub [1, 3, 3] rfl).less (hJ4)) ?_
  refine WA.eff1 (i := 18) (by kernel_rfl) rfl rfl ?_
  refine WL.callP [] rfl rfl (rWith q _ _ top (Nat.le_refl _) _ _ _ hbt hit (htv1.mono hJ4) hw) rfl ?_
  rintro v5 I5 _ hI5 ⟨rfl, kw, rfl, hr⟩
  have hJ5 := hJ4.trans hI5
  have hr0 := hr
  obtain ⟨ar, cr, rfl⟩ := hr.sl
  refine WL.nApp ?_
  refine WL.nil ?_
  refine WK.anyStep (fun w h => (h.sub [1, 3, 3] rfl).less (hJ5)) ?_
  refine WA.eff1 (i := 24) (by kernel_rfl) rfl rfl ?_
  refine WL.stA 2 rfl rfl rfl rfl ?_
  refine WL.nil ?_
  refine WK.anyStep (fun w h => (h.sub [1, 3, 3] rfl).less (hJ5)) ?_
  refine WA.take 25 rfl (by kernel_rfl) rfl (fun w h => (h.sub [1, 3, 3] rfl).less (hJ5)) (Val.assignI rfl) rfl ?_
  refine WA.take 26 rfl (by kernel_rfl) rfl (fun w h => (h.sub [1, 3, 3] rfl).less (hJ5)) (Val.assignI rfl) rfl ?_
  refine WA.take 27 rfl (by kernel_rfl) rfl (fun w h => (h.sub [1, 3, 3] rfl).less (hJ5)) (Val.assignI rfl) rfl ?_
  refine WA.take 28 rfl (by kernel_rfl) rfl (fun w h => (h.sub [1, 3, 3] rfl).less (hJ5)) (Val.assignI rfl) rfl ?_
  refine WA.done (by kernel_rfl) ?_
  refine WX.thenC ?_
  refine WC.ret ?_
  have hK := hIb.trans hJ5
  apply WX.doneP (ks := [])
  case hres => exact RunRes.r5 rfl (ResIs.cellL 2 rfl rfl rfl) (ResIs.tmpI rfl) (ResIs.tmpI rfl) (ResIs.tmpI rfl) (ResIs.tmpI rfl)
  case hI => first | exact Mem.le.refl _ | assumption
  rw [hmv]
  exact ⟨rfl, _, rfl, hr⟩
end Go.Proofs.Ytfdeckdongonnab

/-
  Tree, the walks: the law's functions (1): ref, same.
-/

namespace Go.Tr
open Go.Sl Go.Ls
theorem Nd.ext_iff {n x : Nd} : n = x ↔ n.id = x.id ∧ n.grp = x.grp ∧ n.kids = x.kids := by
  cases n; cases x; simp [Nd.id, Nd.grp, Nd.kids]
end Go.Tr
namespace Go.Proofs.Ytfdeckdongonnab
open Go.Sl Go.Ls Go.Tr
set_option maxRecDepth 100000
set_option maxHeartbeats 4000000
set_option linter.unusedVariables false
attribute [local irreducible] WC WL WX WK WA WAK Val Ctr RunRes ResIs Rd At sl box pt Exit.then Exit.inBlock bodyPost Code.wp wpList
theorem rRef (N : Nat) : ∀ (nd : Nd), nd.size ≤ N → ∀ (kv : Value) (I : Mem), nd.size ≤ 1099511627776 → I64 nd.id → LsAt Nd.Rp I nd.kids kv →
    Ctr Try.prog 50 [.agg #[vi nd.id, .bool nd.grp, kv]] I [] (RetN nd) := by
  induction N with
  | zero => intro nd h; have := nd.size_pos; omega
  | succ N ih =>
    intro nd hs kv I hb hid hkv
    have hlen := hkv.le
    have hsz := sizes_lt nd
    have hll := Nd.len_le_sizes nd.kids
    obtain ⟨a1, c1, rfl⟩ := hkv.sl
    refine Ctr.intro Try.func50 rfl rfl rfl fun E F => ?_
    refine WC.seq ?_
    refine WC.region ?_
    (refine WL.boxA rfl rfl ?_; intro _)
    refine WL.nApp ?_
    (refine WL.alloc rfl ?_; intro _)
    refine WL.nApp ?_
    refine WL.nil ?_
    refine WX.thenC ?_
    refine WC.seq ?_
    refine WC.region ?_
    refine WL.val (Val.fldAddr rfl) rfl ?_
    refine WL.val (Val.loadS rfl (Rd.own1 1 rfl rfl)) rfl ?_
    refine WL.val (Val.fldAddr rfl) rfl ?_
    refine WL.val (Val.loadS rfl (Rd.own1 1 rfl rfl)) rfl ?_
    refine WL.val (Val.build (cs := [vi nd.id, .bool nd.grp, .slice none 0 0]) rfl) rfl ?_
    (refine WL.alloc rfl ?_; intro _)
    refine WL.nApp ?_
    refine WL.stA 3 rfl rfl rfl rfl ?_
    refine WL.nil ?_
    refine WX.thenC ?_
    refine WC.seq ?_
    refine WC.seq ?_
    refine WC.region ?_
    refine WL.val (Val.fldAddr rfl) rfl ?_
    refine WL.val (Val.loadS rfl (Rd.own1 1 rfl rfl)) rfl ?_
    refine WL.val (Val.len rfl) rfl ?_
    refine WL.val (Val.moveI rfl) rfl ?_
    refine WL.nil ?_
    refine WX.thenC ?_
    refine WC.block ?_
    rename_i g g2 g3
    refine WC.slNil 39 3 ?_
    refine WC.nApp ?_
    refine WC.loop (fun n ρ' I' L' => ∃ k : Nat, ∃ a cap p, n = nd.kids.length - k ∧ k ≤ nd.kids.length ∧ I.le I' ∧ ρ' 2 = ptr g2 ∧ ρ' 3 = ptr g3 ∧ ρ' 12 = .slice a1 nd.kids.length c1 ∧ ρ' 13 = vi nd.kids.length ∧ ρ' 14 = vi k ∧
        L' = [F, box g 29 [vi nd.id, .bool nd.grp, .slice a1 nd.kids.length c1], box g2 39 [vi 0, .bool false, .slice none 0 0], box g3 39 [vi nd.id, .bool nd.grp, .slice a k cap], p] ∧ OwnL Nd.Rp 39 3 I' (nd.kids.take k) (.slice a k cap) p)
      nd.kids.length ⟨0, _, _, _, rfl, by omega, Mem.le.refl _, rfl, rfl, rfl, rfl, rfl, rfl, [], rfl, trivial⟩ ?_
    rintro n ρ' I0 L' ⟨k, a, cap, p, rfl, hk, hI, h2, h3, h12, h13, h14, rfl, hp⟩
    rw [← upd_self h14, ← upd_self h13, ← upd_self h12, ← upd_self h3, ← upd_self h2]
    clear h14 h13 h12 h3 h2
    have hwl : (nd.kids.take k).length = k := by rw [List.length_take]; omega
    by_cases hkn : k < nd.kids.length
    · obtain ⟨b, off, cap', cs, he, hR, hA⟩ := (hkv.mono hI).get k hkn
      cases he
      obtain ⟨hi, kv', rfl, hks⟩ := Nd.rep_iff.1 hR
      have hks0 := hks
      obtain ⟨a2, c2, rfl⟩ := hks.sl
      have hbk := kid_sz hkn
      have htk : nd.kids.take (k + 1) = nd.kids.take k ++ [nd.kids[k]] := take1 _ _ hkn
      refine WC.seq ?_
      refine WC.region ?_
      refine WL.val (Val.lss rfl rfl (decide_eq_true (by omega))) rfl ?_
      refine WL.nil ?_
      refine WX.thenC ?_
      refine WC.seq ?_
      refine WC.condT rfl ?_
      refine WC.skip ?_
      refine WX.thenC ?_
      refine WC.seq ?_
      refine WC.block ?_
      refine WC.seq ?_
      refine WC.region ?_
      refine WL.val (Val.indexAddr rfl rfl (by omega) (by omega)) rfl ?_
      refine WL.val (Val.loadI rfl (by assumption) rfl) rfl ?_
      (refine WL.alloc rfl ?_; intro _)
      refine WL.nApp ?_
      refine WL.stA 5 rfl rfl rfl rfl ?_
      refine WL.nil ?_
      refine WX.thenC ?_
      refine WC.drawK 7 I0 [3, 4] rfl (by kernel_rfl) rfl rfl ?_
      refine WA.take 0 rfl (by kernel_rfl) rfl (fun w h => (h.sub [3, 4] rfl)) (Val.fldAddr rfl) rfl ?_
      refine WA.take 1 rfl (by kernel_rfl) rfl (fun w h => (h.sub [3, 4] rfl)) (Val.loadS rfl (Rd.own1 0 rfl rfl)) rfl ?_
      refine WA.take 2 rfl (by kernel_rfl) rfl (fun w h => (h.sub [3, 4] rfl)) (Val.ldO 1 rfl rfl rfl) rfl ?_
      refine WA.eff1 (i := 3) (by kernel_rfl) rfl rfl ?_
      refine WL.callP [] rfl rfl (ih _ (kid_lt hs hkn) _ _ (by omega) hi hks) rfl ?_
      rintro v I2 _ hI2 ⟨rfl, kw, rfl, hw⟩
      have hw0 := hw
      obtain ⟨a3, c3, rfl⟩ := hw.sl
      refine WL.nApp ?_
      refine WL.nil ?_
      refine WK.anyStep (fun w h => (h.sub [3, 4] rfl).less (hI2)) ?_
      refine WA.eff1 (i := 4) (by kernel_rfl) rfl rfl ?_
      (refine WL.buildSlice (by with_unfolding_all exact rfl) rfl (by with_unfolding_all exact rfl) rfl ?_; intro _)
      rename_i g4
      refine WL.nApp ?_
      refine WL.nil ?_
      refine WK.anyStep (fun w h => (h.sub [3, 4] rfl).less (hI2)) ?_
      refine WA.eff1 (i := 5) (by kernel_rfl) rfl rfl ?_
      refine WL.appOne (y := nd.kids[k]) (cs := [vi nd.kids[k].id, .bool nd.kids[k].grp, .slice a3 nd.kids[k].kids.length c3]) 4 6 rfl rfl (hp.mono hI2) rfl rfl (Nd.rep_iff.2 ⟨hi, _, rfl, hw⟩) rfl rfl (by rfl) (by decide) (by rw [hwl]; omega) (by rw [hwl]; unfold maxLen; omega) rfl fun aa cc p' hp' => ?_
      refine WL.nSet ?_
      refine WL.nil ?_
      refine WK.anyStep (fun w h => (h.sub [3, 4] rfl).less (hI2)) ?_
      refine WA.take 6 rfl (by kernel_rfl) rfl (fun w h => (h.sub [3, 4] rfl).less (hI2)) (Val.fldAddr rfl) rfl ?_
      refine WA.eff1 (i := 7) (by kernel_rfl) rfl rfl ?_
      refine WL.stS 3 rfl rfl rfl rfl ?_
      refine WL.nil ?_
      refine WK.anyLast ?_
      refine WA.done (by kernel_rfl) ?_
      refine WX.inNormal ?_
      refine WX.thenC ?_
      refine WC.region ?_
      refine WL.val (Val.add rfl rfl (wrap_i64 (by omega) (by omega))) rfl ?_
      refine WL.val (Val.moveI rfl) rfl ?_
      refine WL.nil ?_
      rw [hwl] at hp' ⊢
      refine WX.conv (fun w h => h.sub [0, 0, 0, 0, 0] rfl) ?_
      exact WX.thenK (WK.round (nd.kids.length - (k + 1)) (by omega) ⟨k + 1, aa, cc, p', rfl, by omega, hI.trans hI2, rfl, rfl, rfl, rfl, rfl, rfl, by rw [htk]; exact hp'⟩)
    · skip
      refine WC.seq ?_
      refine WC.region ?_
      refine WL.val (Val.lss rfl rfl (decide_eq_false (by omega))) rfl ?_
      refine WL.nil ?_
      refine WX.thenC ?_
      refine WC.seq ?_
      refine WC.condF rfl ?_
      refine WC.exit ?_
      refine WX.thenExit ?_
      refine WX.thenExit ?_
      refine WX.inHit ?_
      refine WX.thenC ?_
      refine WC.seq ?_
      refine WC.region ?_
      refine WL.val (Val.ldO 3 rfl rfl rfl) rfl ?_
      refine WL.stA 2 rfl rfl rfl rfl ?_
      refine WL.nil ?_
      refine WX.thenC ?_
      refine WC.ret ?_
      refine WX.freezeL 4 rfl hp fun I2 hI2 hv => ?_
      have hJ := hI.trans hI2
      apply WX.doneP (ks := [])
      case hres => exact RunRes.r1 rfl (ResIs.cellL 2 rfl rfl rfl)
      case hI => first | exact Mem.le.refl _ | assumption
      have : k = nd.kids.length := by omega
      subst this
      rw [List.take_length] at hv
      exact ⟨rfl, .slice a nd.kids.length cap, rfl, hv⟩
theorem rSame (N : Nat) : ∀ (nd : Nd), nd.size ≤ N → ∀ (x : Nd) (kv xv : Value) (I : Mem), nd.size ≤ 1099511627776 → I64 nd.id → LsAt Nd.Rp I nd.kids kv → I64 x.id → LsAt Nd.Rp I x.kids xv →
    Ctr Try.prog 21 [.agg #[vi nd.id, .bool nd.grp, kv], .agg #[vi x.id, .bool x.grp, xv]] I [] (Still I (EqP (nd = x))) := by
  induction N with
  | zero => intro nd h; have := nd.size_pos; omega
  | succ N ih =>
    intro nd hs x kv xv I hb hid hkv hix hxv
    have hlen := hkv.le
    have hlex := hxv.le
    have hsz := sizes_lt nd
    have hll := Nd.len_le_sizes nd.kids
    have hkv0 := hkv
    have hxv0 := hxv
    obtain ⟨a1, c1, rfl⟩ := hkv.sl
    obtain ⟨a9, c9, rfl⟩ := hxv.sl
    refine Ctr.intro Try.func21 rfl rfl rfl fun E F => ?_
    refine WC.seq ?_
    refine WC.region ?_
    (refine WL.boxA rfl rfl ?_; intro _)
    refine WL.nApp ?_
    (refine WL.boxA rfl rfl ?_; intro _)
    refine WL.nApp ?_
    refine WL.val (Val.assignB rfl) rfl ?_
    refine WL.nil ?_
    refine WX.thenC ?_
    refine WC.seq ?_
    refine WC.seq ?_
    refine WC.region ?_
    refine WL.val (Val.fldAddr rfl) rfl ?_
    refine WL.val (Val.loadS rfl (Rd.own1 1 rfl rfl)) rfl ?_
    refine WL.val (Val.fldAddr rfl) rfl ?_
    refine WL.val (Val.loadS rfl (Rd.own1 2 rfl rfl)) rfl ?_
    refine WL.neI rfl rfl rfl (fun h => ?_) (fun h => ?_)
    refine WL.val (Val.moveB rfl) rfl ?_
    refine WL.gF rfl rfl rfl rfl ?_
    refine WL.gF rfl rfl rfl rfl ?_
    refine WL.gF rfl rfl rfl rfl ?_
    refine WL.gF rfl rfl rfl rfl ?_
    refine WL.gF rfl rfl rfl rfl ?_
    refine WL.val (Val.pick rfl) rfl ?_
    refine WL.val (Val.moveB rfl) rfl ?_
    refine WL.gF rfl rfl rfl rfl ?_
    refine WL.gF rfl rfl rfl rfl ?_
    refine WL.gF rfl rfl rfl rfl ?_
    refine WL.gF rfl rfl rfl rfl ?_
    refine WL.gF rfl rfl rfl rfl ?_
    refine WL.gF rfl rfl rfl rfl ?_
    refine WL.gF rfl rfl rfl rfl ?_
    refine WL.val (Val.pick rfl) rfl ?_
    refine WL.nil ?_
    refine WX.thenC ?_
    refine WC.condT rfl ?_
    refine WC.seq ?_
    refine WC.region ?_
    refine WL.val (Val.assignB rfl) rfl ?_
    refine WL.nil ?_
    refine WX.thenC ?_
    refine WC.ret ?_
    refine WX.thenRet ?_
    rotate_left
    refine WL.val (Val.moveB rfl) rfl ?_
    refine WL.gT rfl rfl ?_
    refine WL.val (Val.fldAddr rfl) rfl ?_
    refine WL.gT rfl rfl ?_
    refine WL.val (Val.loadS rfl (Rd.own1 1 rfl rfl)) rfl ?_
    refine WL.gT rfl rfl ?_
    refine WL.val (Val.fldAddr rfl) rfl ?_
    refine WL.gT rfl rfl ?_
    refine WL.val (Val.loadS rfl (Rd.own1 2 rfl rfl)) rfl ?_
    refine WL.gT rfl rfl ?_
    refine WL.neB rfl rfl rfl (fun h => ?_) (fun h => ?_)
    refine WL.val (Val.pick rfl) rfl ?_
    refine WL.val (Val.moveB rfl) rfl ?_
    refine WL.gF rfl rfl rfl rfl ?_
    refine WL.gF rfl rfl rfl rfl ?_
    refine WL.gF rfl rfl rfl rfl ?_
    refine WL.gF rfl rfl rfl rfl ?_
    refine WL.gF rfl rfl rfl rfl ?_
    refine WL.gF rfl rfl rfl rfl ?_
    refine WL.gF rfl rfl rfl rfl ?_
    refine WL.val (Val.pick rfl) rfl ?_
    refine WL.nil ?_
    refine WX.thenC ?_
    refine WC.condT rfl ?_
    refine WC.seq ?_
    refine WC.region ?_
    refine WL.val (Val.assignB rfl) rfl ?_
    refine WL.nil ?_
    refine WX.thenC ?_
    refine WC.ret ?_
    refine WX.thenRet ?_
    rotate_left
    refine WL.val (Val.pick rfl) rfl ?_
    refine WL.val (Val.moveB rfl) rfl ?_
    refine WL.gT rfl rfl ?_
    refine WL.val (Val.fldAddr rfl) rfl ?_
    refine WL.gT rfl rfl ?_
    refine WL.val (Val.loadS rfl (Rd.own1 1 rfl rfl)) rfl ?_
    refine WL.gT rfl rfl ?_
    refine WL.val (Val.len rfl) rfl ?_
    refine WL.gT rfl rfl ?_
    refine WL.val (Val.fldAddr rfl) rfl ?_
    refine WL.gT rfl rfl ?_
    refine WL.val (Val.loadS rfl (Rd.own1 2 rfl rfl)) rfl ?_
    refine WL.gT rfl rfl ?_
    refine WL.val (Val.len rfl) rfl ?_
    refine WL.gT rfl rfl ?_
    refine WL.neI rfl rfl rfl (fun h => ?_) (fun h => ?_)
    refine WL.val (Val.pick rfl) rfl ?_
    refine WL.nil ?_
    refine WX.thenC ?_
    refine WC.condT rfl ?_
    refine WC.seq ?_
    refine WC.region ?_
    refine WL.val (Val.assignB rfl) rfl ?_
    refine WL.nil ?_
    refine WX.thenC ?_
    refine WC.ret ?_
    refine WX.thenRet ?_
    rotate_left
    refine WL.val (Val.pick rfl) rfl ?_
    refine WL.nil ?_
    refine WX.thenC ?_
    refine WC.condF rfl ?_
    refine WC.skip ?_
    refine WX.thenC ?_
    refine WC.seq ?_
    refine WC.seq ?_
    refine WC.region ?_
    refine WL.val (Val.fldAddr rfl) rfl ?_
    refine WL.val (Val.loadS rfl (Rd.own1 1 rfl rfl)) rfl ?_
    refine WL.val (Val.len rfl) rfl ?_
    refine WL.val (Val.moveI rfl) rfl ?_
    refine WL.nil ?_
    refine WX.thenC ?_
    refine WC.block ?_
    rotate_left
    · skip
      apply WX.doneP (ks := [])
      case hres => exact RunRes.r1 rfl (ResIs.tmpB rfl)
      case hI => first | exact Mem.le.refl _ | assumption
      exact ⟨rfl, rfl, EqP.f fun hh => h (by rw [hh])⟩
    · skip
      apply WX.doneP (ks := [])
      case hres => exact RunRes.r1 rfl (ResIs.tmpB rfl)
      case hI => first | exact Mem.le.refl _ | assumption
      exact ⟨rfl, rfl, EqP.f fun hh => h (by rw [hh])⟩
    · skip
      apply WX.doneP (ks := [])
      case hres => exact RunRes.r1 rfl (ResIs.tmpB rfl)
      case hI => first | exact Mem.le.refl _ | assumption
      exact ⟨rfl, rfl, EqP.f fun hh => h (by rw [hh])⟩
    rename_i g g2 e1 e2
    have e3 := h
    clear h
    have e3' : nd.kids.length = x.kids.length := by omega
    refine WC.loop (fun n ρ' I' L' => ∃ k : Nat, n = nd.kids.length - k ∧ k ≤ nd.kids.length ∧ I' = I ∧ ρ' 2 = ptr g ∧ ρ' 3 = ptr g2 ∧ ρ' 29 = vi nd.kids.length ∧ ρ' 30 = vi k ∧ L' = [F, box g 29 [vi nd.id, .bool nd.grp, .slice a1 nd.kids.length c1], box g2 39 [vi x.id, .bool x.grp, .slice a9 x.kids.length c9]] ∧ nd.kids.take k = x.kids.take k)
      nd.kids.length ⟨0, rfl, by omega, rfl, rfl, rfl, rfl, rfl, rfl, rfl⟩ ?_
    rintro n ρ' I0 L' ⟨k, rfl, hk, rfl, h2, h3, h29, h30, rfl, htk⟩
    rw [← upd_self h30, ← upd_self h29, ← upd_self h3, ← upd_self h2]
    clear h30 h29 h3 h2
    by_cases hkn : k < nd.kids.length
    · obtain ⟨b, off, cap', cs, he, hR, hA⟩ := hkv.get k hkn
      cases he
      obtain ⟨hi, kv', rfl, hks⟩ := Nd.rep_iff.1 hR
      have hks0 := hks
      obtain ⟨a2, c2, rfl⟩ := hks.sl
      have hkx : k < x.kids.length := by omega
      obtain ⟨b', off', cap'', cs, he, hR', hA'⟩ := hxv.get k hkx
      cases he
      obtain ⟨hi', kv', rfl, hks'⟩ := Nd.rep_iff.1 hR'
      have hks1 := hks'
      obtain ⟨a3, c3, rfl⟩ := hks'.sl
      have hbk := kid_sz hkn
      refine WC.seq ?_
      refine WC.region ?_
      refine WL.val (Val.lss rfl rfl (decide_eq_true (by omega))) rfl ?_
      refine WL.nil ?_
      refine WX.thenC ?_
      refine WC.seq ?_
      refine WC.condT rfl ?_
      refine WC.skip ?_
      refine WX.thenC ?_
      refine WC.seq ?_
      refine WC.block ?_
      refine WC.seq ?_
      refine WC.region ?_
      refine WL.val (Val.moveI rfl) rfl ?_
      refine WL.val (Val.assignI rfl) rfl ?_
      refine WL.nil ?_
      refine WX.thenC ?_
      refine WC.seq ?_
      refine WC.drawK 999 I0 [1, 1] rfl (by kernel_rfl) rfl rfl ?_
      refine WA.take 0 rfl (by kernel_rfl) rfl (fun w h => (h.sub [1, 1] rfl)) (Val.fldAddr rfl) rfl ?_
      refine WA.take 1 rfl (by kernel_rfl) rfl (fun w h => (h.sub [1, 1] rfl)) (Val.loadS rfl (Rd.own1 0 rfl rfl)) rfl ?_
      refine WA.take 2 rfl (by kernel_rfl) rfl (fun w h => (h.sub [1, 1] rfl)) (Val.moveI rfl) rfl ?_
      refine WA.take 3 rfl (by kernel_rfl) rfl (fun w h => (h.sub [1, 1] rfl)) (Val.indexAddr rfl rfl (by omega) (by omega)) rfl ?_
      refine WA.take 4 rfl (by kernel_rfl) rfl (fun w h => (h.sub [1, 1] rfl)) (Val.loadI rfl (by assumption) rfl) rfl ?_
      refine WA.take 5 rfl (by kernel_rfl) rfl (fun w h => (h.sub [1, 1] rfl)) (Val.fldAddr rfl) rfl ?_
      refine WA.take 6 rfl (by kernel_rfl) rfl (fun w h => (h.sub [1, 1] rfl)) (Val.loadS rfl (Rd.own1 1 rfl rfl)) rfl ?_
      refine WA.take 7 rfl (by kernel_rfl) rfl (fun w h => (h.sub [1, 1] rfl)) (Val.moveI rfl) rfl ?_
      refine WA.take 8 rfl (by kernel_rfl) rfl (fun w h => (h.sub [1, 1] rfl)) (Val.indexAddr rfl rfl (by omega) (by omega)) rfl ?_
      refine WA.take 9 rfl (by kernel_rfl) rfl (fun w h => (h.sub [1, 1] rfl)) (Val.loadI rfl (by assumption) rfl) rfl ?_
      refine WA.eff1 (i := 10) (by kernel_rfl) rfl rfl ?_
      refine WL.callE rfl rfl (ih _ (kid_lt hs hkn) _ _ _ _ (by omega) hi hks hi' hks') rfl (fun hq => ?_) (fun hq => ?_)
      · skip
        refine WL.nil ?_
        refine WK.anyStep (fun w h => (h.sub [1, 1] rfl)) ?_
        refine WA.take 11 rfl (by kernel_rfl) rfl (fun w h => (h.sub [1, 1] rfl)) (Val.not rfl) rfl ?_
        refine WA.done (by kernel_rfl) ?_
        refine WX.thenC ?_
        refine WC.condF rfl ?_
        refine WC.skip ?_
        refine WX.inNormal ?_
        refine WX.thenC ?_
        refine WC.region ?_
        refine WL.val (Val.add rfl rfl (wrap_i64 (by omega) (by omega))) rfl ?_
        refine WL.val (Val.moveI rfl) rfl ?_
        refine WL.nil ?_
        refine WX.thenK (WK.round (nd.kids.length - (k + 1)) (by omega) ⟨k + 1, rfl, by omega, rfl, rfl, rfl, rfl, rfl, rfl, ?_⟩)
        rw [take1 _ _ hkn, take1 _ _ hkx, htk, hq]
      · skip
        refine WL.nil ?_
        refine WK.anyStep (fun w h => (h.sub [1, 1] rfl)) ?_
        refine WA.take 11 rfl (by kernel_rfl) rfl (fun w h => (h.sub [1, 1] rfl)) (Val.not rfl) rfl ?_
        refine WA.done (by kernel_rfl) ?_
        refine WX.thenC ?_
        refine WC.condT rfl ?_
        refine WC.seq ?_
        refine WC.region ?_
        refine WL.val (Val.assignB rfl) rfl ?_
        refine WL.nil ?_
        refine WX.thenC ?_
        refine WC.ret ?_
        refine WX.inRet ?_
        refine WX.thenRet ?_
        refine WX.thenRet ?_
        refine WX.inRet ?_
        refine WX.thenRet ?_
        apply WX.doneP (ks := [])
        case hres => exact RunRes.r1 rfl (ResIs.tmpB rfl)
        case hI => first | exact Mem.le.refl _ | assumption
        exact ⟨rfl, rfl, EqP.f fun hh => hq (by subst hh; rfl)⟩
    · skip
      refine WC.seq ?_
      refine WC.region ?_
      refine WL.val (Val.lss rfl rfl (decide_eq_false (by omega))) rfl ?_
      refine WL.nil ?_
      refine WX.thenC ?_
      refine WC.seq ?_
      refine WC.condF rfl ?_
      refine WC.exit ?_
      refine WX.thenExit ?_
      refine WX.thenExit ?_
      refine WX.inHit ?_
      refine WX.thenC ?_
      refine WC.seq ?_
      refine WC.region ?_
      refine WL.val (Val.assignB rfl) rfl ?_
      refine WL.nil ?_
      refine WX.thenC ?_
      refine WC.ret ?_
      apply WX.doneP (ks := [])
      case hres => exact RunRes.r1 rfl (ResIs.tmpB rfl)
      case hI => first | exact Mem.le.refl _ | assumption
      have : k = nd.kids.length := by omega
      rw [this, List.take_length, e3', List.take_length] at htk
      exact ⟨rfl, rfl, EqP.t (Nd.ext_iff.2 ⟨e1, e2, htk⟩)⟩
end Go.Proofs.Ytfdeckdongonnab

/-
  Tree, the walks: the law's functions (2): small, build.
-/

namespace Go.Tr
open Go.Sl Go.Ls
structure Pl where
  id : Int
  grp : Bool
  kids : Int
def Pl.rep : Rep Pl := fun _ p cs => cs = [vi p.id, .bool p.grp, vi p.kids] ∧ I64 p.id ∧ I64 p.kids
instance : RepMono Pl.rep := ⟨fun h _ => h⟩
instance : RepLen Pl.rep 3 := ⟨fun h => by rw [h.1]; rfl⟩
structure Opn where
  kind : Int
  id : Int
  parent : Int
  index : Int
  count : Int
  nodes : List Pl
def Opn.rep : Rep Opn := fun I o cs => ∃ nv, cs = [vi o.kind, vi o.id, vi o.parent, vi o.index, vi o.count, nv] ∧ I64 o.kind ∧ I64 o.id ∧ I64 o.parent ∧ I64 o.index ∧ I64 o.count ∧ LsAt Pl.rep I o.nodes nv
instance : RepMono Opn.rep := ⟨fun ⟨nv, h, h1, h2, h3, h4, h5, h6⟩ hI => ⟨nv, h, h1, h2, h3, h4, h5, h6.mono hI⟩⟩
instance : RepLen Opn.rep 6 := ⟨fun ⟨nv, h, _⟩ => by rw [h]; rfl⟩
def Small (l : List Opn) : Prop := l.length ≤ 40 ∧ ∀ o ∈ l, o.nodes.length ≤ 80
end Go.Tr
namespace Go.Proofs.Ytfdeckdongonnab
open Go.Sl Go.Ls Go.Tr
set_option maxRecDepth 100000
set_option maxHeartbeats 4000000
set_option linter.unusedVariables false
attribute [local irreducible] WC WL WX WK WA WAK Val Ctr RunRes ResIs Rd At sl box pt Exit.then Exit.inBlock bodyPost Code.wp wpList
theorem rSmall (l : List Opn) (lv : Value) (I : Mem) (hlv : LsAt Opn.rep I l lv) :
    Ctr Try.prog 16 [lv] I [] (Still I (EqP (Small l))) := by
  have hlen := hlv.le
  obtain ⟨a1, c1, rfl⟩ := hlv.sl
  refine Ctr.intro Try.func16 rfl rfl rfl fun E F => ?_
  refine WC.seq ?_
  refine WC.region ?_
  refine WL.val (Val.assignB rfl) rfl ?_
  refine WL.nil ?_
  refine WX.thenC ?_
  refine WC.seq ?_
  refine WC.seq ?_
  refine WC.region ?_
  refine WL.val (Val.moveS rfl) rfl ?_
  refine WL.val (Val.len rfl) rfl ?_
  refine WL.val (Val.moveI rfl) rfl ?_
  refine WL.nil ?_
  refine WX.thenC ?_
  refine WC.block ?_
  refine WC.loop (fun n ρ' I' L' => ∃ k : Nat, n = l.length - k ∧ k ≤ l.length ∧ I' = I ∧ ρ' 0 = .slice a1 l.length c1 ∧ ρ' 5 = .slice a1 l.length c1 ∧ ρ' 6 = vi l.length ∧ ρ' 7 = vi k ∧ L' = [F] ∧ ∀ o ∈ l.take k, o.nodes.length ≤ 80)
    l.length ⟨0, rfl, by omega, rfl, rfl, rfl, rfl, rfl, rfl, by simp⟩ ?_
  rintro n ρ' I0 L' ⟨k, rfl, hk, rfl, h0, h5, h6, h7, rfl, hall⟩
  rw [← upd_self h7, ← upd_self h6, ← upd_self h5, ← upd_self h0]
  clear h7 h6 h5 h0
  by_cases hkn : k < l.length
  · obtain ⟨b, off, cap', cs, he, hR, hA⟩ := hlv.get k hkn
    cases he
    obtain ⟨nv, rfl, hi1, hi2, hi3, hi4, hi5, hns⟩ := hR
    have hnl := hns.le
    have hns0 := hns
    obtain ⟨a2, c2, rfl⟩ := hns.sl
    by_cases hq : l[k].nodes.length ≤ 80
    · skip
      refine WC.seq ?_
      refine WC.region ?_
      refine WL.val (Val.lss rfl rfl (decide_eq_true (by omega))) rfl ?_
      refine WL.nil ?_
      refine WX.thenC ?_
      refine WC.seq ?_
      refine WC.condT rfl ?_
      refine WC.skip ?_
      refine WX.thenC ?_
      refine WC.seq ?_
      refine WC.block ?_
      refine WC.seq ?_
      refine WC.region ?_
      refine WL.val (Val.indexAddr rfl rfl (by omega) (by omega)) rfl ?_
      refine WL.val (Val.loadI rfl (by assumption) rfl) rfl ?_
      (refine WL.alloc rfl ?_; intro _)
      refine WL.nApp ?_
      refine WL.stA 1 rfl rfl rfl rfl ?_
      refine WL.nil ?_
      refine WX.thenC ?_
      refine WC.seq ?_
      refine WC.region ?_
      refine WL.val (Val.fldAddr rfl) rfl ?_
      refine WL.val (Val.loadS rfl (Rd.own1 1 rfl rfl)) rfl ?_
      refine WL.val (Val.len rfl) rfl ?_
      refine WL.val (Val.gtr rfl rfl (decide_eq_false (by omega))) rfl ?_
      refine WL.nil ?_
      refine WX.thenC ?_
      refine WC.condF rfl ?_
      refine WC.skip ?_
      refine WX.inNormal ?_
      refine WX.thenC ?_
      refine WC.region ?_
      refine WL.val (Val.add rfl rfl (wrap_i64 (by omega) (by omega))) rfl ?_
      refine WL.val (Val.moveI rfl) rfl ?_
      refine WL.nil ?_
      refine WX.conv (fun w h => h.sub [0] rfl) ?_
      refine WX.thenK (WK.round (l.length - (k + 1)) (by omega) ⟨k + 1, rfl, by omega, rfl, rfl, rfl, rfl, rfl, rfl, ?_⟩)
      rw [take1 _ _ hkn]
      intro o ho
      rcases List.mem_append.1 ho with ho | ho
      · exact hall o ho
      · rw [List.mem_singleton.1 ho]; exact hq
    · skip
      refine WC.seq ?_
      refine WC.region ?_
      refine WL.val (Val.lss rfl rfl (decide_eq_true (by omega))) rfl ?_
      refine WL.nil ?_
      refine WX.thenC ?_
      refine WC.seq ?_
      refine WC.condT rfl ?_
      refine WC.skip ?_
      refine WX.thenC ?_
      refine WC.seq ?_
      refine WC.block ?_
      refine WC.seq ?_
      refine WC.region ?_
      refine WL.val (Val.indexAddr rfl rfl (by omega) (by omega)) rfl ?_
      refine WL.val (Val.loadI rfl (by assumption) rfl) rfl ?_
      (refine WL.alloc rfl ?_; intro _)
      refine WL.nApp ?_
      refine WL.stA 1 rfl rfl rfl rfl ?_
      refine WL.nil ?_
      refine WX.thenC ?_
      refine WC.seq ?_
      refine WC.region ?_
      refine WL.val (Val.fldAddr rfl) rfl ?_
      refine WL.val (Val.loadS rfl (Rd.own1 1 rfl rfl)) rfl ?_
      refine WL.val (Val.len rfl) rfl ?_
      refine WL.val (Val.gtr rfl rfl (decide_eq_true (by omega))) rfl ?_
      refine WL.nil ?_
      refine WX.thenC ?_
      refine WC.condT rfl ?_
      refine WC.seq ?_
      refine WC.region ?_
      refine WL.val (Val.assignB rfl) rfl ?_
      refine WL.nil ?_
      refine WX.thenC ?_
      refine WC.ret ?_
      refine WX.inRet ?_
      refine WX.thenRet ?_
      refine WX.thenRet ?_
      refine WX.inRet ?_
      refine WX.thenRet ?_
      apply WX.doneP (ks := [])
      case hres => exact RunRes.r1 rfl (ResIs.tmpB rfl)
      case hI => first | exact Mem.le.refl _ | assumption
      exact ⟨rfl, rfl, EqP.f fun hh => hq (hh.2 _ (List.getElem_mem hkn))⟩
  · have : k = l.length := by omega
    rw [this, List.take_length] at hall
    by_cases hq : l.length ≤ 40
    · skip
      refine WC.seq ?_
      refine WC.region ?_
      refine WL.val (Val.lss rfl rfl (decide_eq_false (by omega))) rfl ?_
      refine WL.nil ?_
      refine WX.thenC ?_
      refine WC.seq ?_
      refine WC.condF rfl ?_
      refine WC.exit ?_
      refine WX.thenExit ?_
      refine WX.thenExit ?_
      refine WX.inHit ?_
      refine WX.thenC ?_
      refine WC.seq ?_
      refine WC.region ?_
      refine WL.val (Val.moveS rfl) rfl ?_
      refine WL.val (Val.len rfl) rfl ?_
      refine WL.val (Val.leq rfl rfl (decide_eq_true (by omega))) rfl ?_
      refine WL.val (Val.assignB rfl) rfl ?_
      refine WL.nil ?_
      refine WX.thenC ?_
      refine WC.ret ?_
      apply WX.doneP (ks := [])
      case hres => exact RunRes.r1 rfl (ResIs.tmpB rfl)
      case hI => first | exact Mem.le.refl _ | assumption
      exact ⟨rfl, rfl, EqP.t ⟨hq, hall⟩⟩
    · skip
      refine WC.seq ?_
      refine WC.region ?_
      refine WL.val (Val.lss rfl rfl (decide_eq_false (by omega))) rfl ?_
      refine WL.nil ?_
      refine WX.thenC ?_
      refine WC.seq ?_
      refine WC.condF rfl ?_
      refine WC.exit ?_
      refine WX.thenExit ?_
      refine WX.thenExit ?_
      refine WX.inHit ?_
      refine WX.thenC ?_
      refine WC.seq ?_
      refine WC.region ?_
      refine WL.val (Val.moveS rfl) rfl ?_
      refine WL.val (Val.len rfl) rfl ?_
      refine WL.val (Val.leq rfl rfl (decide_eq_false (by omega))) rfl ?_
      refine WL.val (Val.assignB rfl) rfl ?_
      refine WL.nil ?_
      refine WX.thenC ?_
      refine WC.ret ?_
      apply WX.doneP (ks := [])
      case hres => exact RunRes.r1 rfl (ResIs.tmpB rfl)
      case hI => first | exact Mem.le.refl _ | assumption
      exact ⟨rfl, rfl, EqP.f fun hh => hq hh.1⟩
/-- What build answers: a node of so many as it took. -/
def RetB (n : Nat) : Value → Mem → List HP → Prop := fun v I' L' => L' = [] ∧ ∃ (nd : Nd) (kv : Value), v = .tuple #[.agg #[vi nd.id, .bool nd.grp, kv], vi nd.size] ∧ LsAt Nd.Rp I' nd.kids kv ∧ I64 nd.id ∧ nd.size ≤ n
theorem rBuild (N : Nat) : ∀ (l : List Pl), l.length ≤ N → 0 < l.length → ∀ (lv : Value) (d : Int) (I : Mem), l.length ≤ 1000000000 → 0 ≤ d → d ≤ 70 → LsAt Pl.rep I l lv →
    Ctr Try.prog 23 [lv, vi d] I [] (RetB l.length) := by
  induction N with
  | zero => intro l h h0; omega
  | succ N ih =>
    intro l hs h0 lv d I hb hd0 hd1 hlv
    obtain ⟨b, off, cap', cs, he, hR, hA⟩ := hlv.get 0 h0
    have hlv0 := hlv
    subst he
    obtain ⟨rfl, hi, hk⟩ := hR
    refine Ctr.intro Try.func23 rfl rfl rfl fun E F => ?_
    have hcp := hlv.cap
    have hA0 : At I b (off + (0 : Int).toNat * 3) [vi l[0].id] := hA.zero rfl
    have hA1 : At I b (off + (0 : Int).toNat * 3 + 1) [.bool l[0].grp] := hA.one (k := 1) rfl
    have hA2 : At I b (off + (0 : Int).toNat * 3 + 2) [vi l[0].kids] := hA.one (k := 2) rfl
    refine WC.seq ?_
    refine WC.region ?_
    (refine WL.alloc rfl ?_; intro _)
    refine WL.nApp ?_
    refine WL.val (Val.assignI rfl) rfl ?_
    refine WL.nil ?_
    refine WX.thenC ?_
    refine WC.seq ?_
    refine WC.drawK 999 I [] rfl (by kernel_rfl) rfl rfl ?_
    refine WA.take 0 rfl (by kernel_rfl) rfl (fun w h => (h.sub [] rfl)) (Val.moveS rfl) rfl ?_
    refine WA.take 1 rfl (by kernel_rfl) rfl (fun w h => (h.sub [] rfl)) (Val.indexAddr rfl rfl (by omega) (by omega)) rfl ?_
    refine WA.take 2 rfl (by kernel_rfl) rfl (fun w h => (h.sub [] rfl)) (Val.fldAddr rfl) rfl ?_
    first | refine WA.take 3 rfl (by kernel_rfl) rfl (fun w h => (h.sub [] rfl)) (Val.loadS rfl (Rd.imm hA0)) rfl ?_ | refine WA.takeGT 3 rfl (by kernel_rfl) rfl (fun w h => (h.sub [] rfl)) rfl rfl (Val.loadS rfl (Rd.imm hA0)) rfl ?_
    refine WA.take 4 rfl (by kernel_rfl) rfl (fun w h => (h.sub [] rfl)) (Val.moveS rfl) rfl ?_
    refine WA.take 5 rfl (by kernel_rfl) rfl (fun w h => (h.sub [] rfl)) (Val.indexAddr rfl rfl (by omega) (by omega)) rfl ?_
    refine WA.take 6 rfl (by kernel_rfl) rfl (fun w h => (h.sub [] rfl)) (Val.fldAddr rfl) rfl ?_
    first | refine WA.take 7 rfl (by kernel_rfl) rfl (fun w h => (h.sub [] rfl)) (Val.loadS rfl (Rd.imm hA1)) rfl ?_ | refine WA.takeGT 7 rfl (by kernel_rfl) rfl (fun w h => (h.sub [] rfl)) rfl rfl (Val.loadS rfl (Rd.imm hA1)) rfl ?_
    first | refine WA.take 8 rfl (by kernel_rfl) rfl (fun w h => (h.sub [] rfl)) (Val.build (cs := [vi l[0].id, .bool l[0].grp, .slice none 0 0]) rfl) rfl ?_ | refine WA.takeGT 8 rfl (by kernel_rfl) rfl (fun w h => (h.sub [] rfl)) rfl rfl (Val.build (cs := [vi l[0].id, .bool l[0].grp, .slice none 0 0]) rfl) rfl ?_
    refine WA.eff1 (i := 9) (by kernel_rfl) rfl rfl ?_
    (refine WL.alloc rfl ?_; intro _)
    refine WL.nApp ?_
    refine WL.nil ?_
    refine WK.anyStep (fun w h => (h.sub [] rfl)) ?_
    refine WA.eff1 (i := 10) (by kernel_rfl) rfl rfl ?_
    refine WL.stA 2 rfl rfl rfl rfl ?_
    refine WL.nil ?_
    refine WK.anyStep (fun w h => (h.sub [] rfl)) ?_
    refine WA.done (by kernel_rfl) ?_
    refine WX.thenC ?_
    refine WC.seq ?_
    refine WC.region ?_
    refine WL.val (Val.assignI rfl) rfl ?_
    refine WL.nil ?_
    refine WX.thenC ?_
    refine WC.seq ?_
    refine WC.seq ?_
    refine WC.region ?_
    refine WL.val (Val.assignI rfl) rfl ?_
    refine WL.nil ?_
    refine WX.thenC ?_
    refine WC.block ?_
    rename_i g g2
    refine WC.slNil 29 3 ?_
    refine WC.nApp ?_
    refine WC.loop (fun n ρ' I' L' => ∃ (ks : List Nd) (a : Option Addr) (cap : Nat) (p : HP), n = l.length - (1 + Nd.sizes ks) ∧ 1 + Nd.sizes ks ≤ l.length ∧ I.le I' ∧ ρ' 0 = .slice (some ⟨b, off, none⟩) l.length cap' ∧ ρ' 1 = vi d ∧ ρ' 4 = ptr g ∧ ρ' 6 = ptr g2 ∧ ρ' 7 = vi ((1 + Nd.sizes ks : Nat) : Int) ∧ ρ' 8 = vi ks.length ∧
        L' = [F, box g 29 [vi 0, .bool false, .slice none 0 0], box g2 29 [vi l[0].id, .bool l[0].grp, .slice a ks.length cap], p] ∧ OwnL Nd.Rp 29 3 I' ks (.slice a ks.length cap) p)
      (l.length - 1) ⟨[], _, _, _, rfl, by simp only [Nd.sizes]; omega, Mem.le.refl _, rfl, rfl, rfl, rfl, rfl, rfl, rfl, [], rfl, trivial⟩ ?_
    rintro n ρ' I0 L' ⟨ks, a, cap, p, rfl, hle, hI, h0', h1, h4, h6, h7, h8, rfl, hp⟩
    rw [← upd_self h8, ← upd_self h7, ← upd_self h6, ← upd_self h4, ← upd_self h1, ← upd_self h0']
    clear h8 h7 h6 h4 h1 h0'
    have hkl := Nd.len_le_sizes ks
    have hB2 : At I0 b (off + (0 : Int).toNat * 3 + 2) [vi l[0].kids] := hA2.mono hI
    by_cases c1 : (ks.length : Int) < l[0].kids
    case neg =>
      refine WC.seq ?_
      refine WC.seq ?_
      refine WC.region ?_
      refine WL.val (Val.moveI rfl) rfl ?_
      refine WL.val (Val.moveS rfl) rfl ?_
      refine WL.val (Val.indexAddr rfl rfl (by omega) (by omega)) rfl ?_
      refine WL.val (Val.fldAddr rfl) rfl ?_
      refine WL.val (Val.loadS rfl (Rd.imm (by assumption))) rfl ?_
      refine WL.val (Val.lss rfl rfl (decide_eq_false (by omega))) rfl ?_
      refine WL.val (Val.moveB rfl) rfl ?_
      refine WL.gF rfl rfl rfl rfl ?_
      refine WL.gF rfl rfl rfl rfl ?_
      refine WL.gF rfl rfl rfl rfl ?_
      refine WL.gF rfl rfl rfl rfl ?_
      refine WL.val (Val.pick rfl) rfl ?_
      refine WL.val (Val.moveB rfl) rfl ?_
      refine WL.gF rfl rfl rfl rfl ?_
      refine WL.gF rfl rfl rfl rfl ?_
      refine WL.val (Val.pick rfl) rfl ?_
      refine WL.nil ?_
      refine WX.thenC ?_
      refine WC.condF rfl ?_
      refine WC.exit ?_
      refine WX.thenExit ?_
      refine WX.thenExit ?_
      refine WX.inHit ?_
      refine WX.thenC ?_
      refine WC.seq ?_
      refine WC.region ?_
      refine WL.val (Val.ldO 2 rfl rfl rfl) rfl ?_
      refine WL.val (Val.moveI rfl) rfl ?_
      refine WL.stA 1 rfl rfl rfl rfl ?_
      refine WL.val (Val.assignI rfl) rfl ?_
      refine WL.nil ?_
      refine WX.thenC ?_
      refine WC.ret ?_
      refine WX.freezeL 3 rfl hp fun I2 hI2 hv => ?_
      have hJ := hI.trans hI2
      apply WX.doneP (ks := [])
      case hres => exact RunRes.r2 rfl (ResIs.cellL 1 rfl rfl rfl) (ResIs.tmpI rfl)
      case hI => first | exact Mem.le.refl _ | assumption
      exact ⟨rfl, .mk l[0].id l[0].grp ks, .slice a ks.length cap, rfl, hv, hi, hle⟩
    by_cases c2 : 1 + Nd.sizes ks < l.length
    case neg =>
      refine WC.seq ?_
      refine WC.seq ?_
      refine WC.region ?_
      refine WL.val (Val.moveI rfl) rfl ?_
      refine WL.val (Val.moveS rfl) rfl ?_
      refine WL.val (Val.indexAddr rfl rfl (by omega) (by omega)) rfl ?_
      refine WL.val (Val.fldAddr rfl) rfl ?_
      refine WL.val (Val.loadS rfl (Rd.imm (by assumption))) rfl ?_
      refine WL.val (Val.lss rfl rfl (decide_eq_true (by omega))) rfl ?_
      refine WL.val (Val.moveB rfl) rfl ?_
      refine WL.gT rfl rfl ?_
      refine WL.val (Val.moveI rfl) rfl ?_
      refine WL.gT rfl rfl ?_
      refine WL.val (Val.moveS rfl) rfl ?_
      refine WL.gT rfl rfl ?_
      refine WL.val (Val.len rfl) rfl ?_
      refine WL.gT rfl rfl ?_
      refine WL.val (Val.lss rfl rfl (decide_eq_false (by omega))) rfl ?_
      refine WL.val (Val.pick rfl) rfl ?_
      refine WL.val (Val.moveB rfl) rfl ?_
      refine WL.gF rfl rfl rfl rfl ?_
      refine WL.gF rfl rfl rfl rfl ?_
      refine WL.val (Val.pick rfl) rfl ?_
      refine WL.nil ?_
      refine WX.thenC ?_
      refine WC.condF rfl ?_
      refine WC.exit ?_
      refine WX.thenExit ?_
      refine WX.thenExit ?_
      refine WX.inHit ?_
      refine WX.thenC ?_
      refine WC.seq ?_
      refine WC.region ?_
      refine WL.val (Val.ldO 2 rfl rfl rfl) rfl ?_
      refine WL.val (Val.moveI rfl) rfl ?_
      refine WL.stA 1 rfl rfl rfl rfl ?_
      refine WL.val (Val.assignI rfl) rfl ?_
      refine WL.nil ?_
      refine WX.thenC ?_
      refine WC.ret ?_
      refine WX.freezeL 3 rfl hp fun I2 hI2 hv => ?_
      have hJ := hI.trans hI2
      apply WX.doneP (ks := [])
      case hres => exact RunRes.r2 rfl (ResIs.cellL 1 rfl rfl rfl) (ResIs.tmpI rfl)
      case hI => first | exact Mem.le.refl _ | assumption
      exact ⟨rfl, .mk l[0].id l[0].grp ks, .slice a ks.length cap, rfl, hv, hi, hle⟩
    by_cases c3 : d < 70
    case neg =>
      refine WC.seq ?_
      refine WC.seq ?_
      refine WC.region ?_
      refine WL.val (Val.moveI rfl) rfl ?_
      refine WL.val (Val.moveS rfl) rfl ?_
      refine WL.val (Val.indexAddr rfl rfl (by omega) (by omega)) rfl ?_
      refine WL.val (Val.fldAddr rfl) rfl ?_
      refine WL.val (Val.loadS rfl (Rd.imm (by assumption))) rfl ?_
      refine WL.val (Val.lss rfl rfl (decide_eq_true (by omega))) rfl ?_
      refine WL.val (Val.moveB rfl) rfl ?_
      refine WL.gT rfl rfl ?_
      refine WL.val (Val.moveI rfl) rfl ?_
      refine WL.gT rfl rfl ?_
      refine WL.val (Val.moveS rfl) rfl ?_
      refine WL.gT rfl rfl ?_
      refine WL.val (Val.len rfl) rfl ?_
      refine WL.gT rfl rfl ?_
      refine WL.val (Val.lss rfl rfl (decide_eq_true (by omega))) rfl ?_
      refine WL.val (Val.pick rfl) rfl ?_
      refine WL.val (Val.moveB rfl) rfl ?_
      refine WL.gT rfl rfl ?_
      refine WL.val (Val.moveI rfl) rfl ?_
      refine WL.gT rfl rfl ?_
      refine WL.val (Val.lss rfl rfl (decide_eq_false (by omega))) rfl ?_
      refine WL.val (Val.pick rfl) rfl ?_
      refine WL.nil ?_
      refine WX.thenC ?_
      refine WC.condF rfl ?_
      refine WC.exit ?_
      refine WX.thenExit ?_
      refine WX.thenExit ?_
      refine WX.inHit ?_
      refine WX.thenC ?_
      refine WC.seq ?_
      refine WC.region ?_
      refine WL.val (Val.ldO 2 rfl rfl rfl) rfl ?_
      refine WL.val (Val.moveI rfl) rfl ?_
      refine WL.stA 1 rfl rfl rfl rfl ?_
      refine WL.val (Val.assignI rfl) rfl ?_
      refine WL.nil ?_
      refine WX.thenC ?_
      refine WC.ret ?_
      refine WX.freezeL 3 rfl hp fun I2 hI2 hv => ?_
      have hJ := hI.trans hI2
      apply WX.doneP (ks := [])
      case hres => exact RunRes.r2 rfl (ResIs.cellL 1 rfl rfl rfl) (ResIs.tmpI rfl)
      case hI => first | exact Mem.le.refl _ | assumption
      exact ⟨rfl, .mk l[0].id l[0].grp ks, .slice a ks.length cap, rfl, hv, hi, hle⟩
    have hdr : (l.drop (1 + Nd.sizes ks)).length = l.length - (1 + Nd.sizes ks) := List.length_drop
    have hlv1 := (hlv.mono hI).drop (1 + Nd.sizes ks) hle
    refine WC.seq ?_
    refine WC.seq ?_
    refine WC.region ?_
    refine WL.val (Val.moveI rfl) rfl ?_
    refine WL.val (Val.moveS rfl) rfl ?_
    refine WL.val (Val.indexAddr rfl rfl (by omega) (by omega)) rfl ?_
    refine WL.val (Val.fldAddr rfl) rfl ?_
    refine WL.val (Val.loadS rfl (Rd.imm (by assumption))) rfl ?_
    refine WL.val (Val.lss rfl rfl (decide_eq_true (by omega))) rfl ?_
    refine WL.val (Val.moveB rfl) rfl ?_
    refine WL.gT rfl rfl ?_
    refine WL.val (Val.moveI rfl) rfl ?_
    refine WL.gT rfl rfl ?_
    refine WL.val (Val.moveS rfl) rfl ?_
    refine WL.gT rfl rfl ?_
    refine WL.val (Val.len rfl) rfl ?_
    refine WL.gT rfl rfl ?_
    refine WL.val (Val.lss rfl rfl (decide_eq_true (by omega))) rfl ?_
    refine WL.val (Val.pick rfl) rfl ?_
    refine WL.val (Val.moveB rfl) rfl ?_
    refine WL.gT rfl rfl ?_
    refine WL.val (Val.moveI rfl) rfl ?_
    refine WL.gT rfl rfl ?_
    refine WL.val (Val.lss rfl rfl (decide_eq_true (by omega))) rfl ?_
    refine WL.val (Val.pick rfl) rfl ?_
    refine WL.nil ?_
    refine WX.thenC ?_
    refine WC.condT rfl ?_
    refine WC.skip ?_
    refine WX.thenC ?_
    refine WC.seq ?_
    refine WC.block ?_
    refine WC.seq ?_
    refine WC.region ?_
    refine WL.val (Val.moveS rfl) rfl ?_
    refine WL.val (Val.moveI rfl) rfl ?_
    refine WL.val (Val.sliceFrom rfl rfl (by omega) (by omega) (by omega)) rfl ?_
    refine WL.val (Val.moveI rfl) rfl ?_
    refine WL.val (Val.add rfl rfl (wrap_i64 (by omega) (by omega))) rfl ?_
    refine WL.callP [] rfl rfl (ih (l.drop (1 + Nd.sizes ks)) (by omega) (by omega) _ (d + 1) _ (by omega) (by omega) (by omega) hlv1) rfl ?_
    rintro v I2 _ hI2 ⟨rfl, nd, kv, rfl, hks, hid, hns⟩
    have hks0 := hks
    have hnp := nd.size_pos
    obtain ⟨a2, c2, rfl⟩ := hks.sl
    refine WL.nApp ?_
    refine WL.val (Val.moveT rfl) rfl ?_
    refine WL.val (Val.extractA rfl rfl) rfl ?_
    refine WL.val (Val.extractI rfl rfl) rfl ?_
    (refine WL.alloc rfl ?_; intro _)
    refine WL.nApp ?_
    refine WL.stA 4 rfl rfl rfl rfl ?_
    refine WL.val (Val.assignI rfl) rfl ?_
    refine WL.nil ?_
    refine WX.thenC ?_
    refine WC.seq ?_
    refine WC.region ?_
    refine WL.val (Val.fldAddr rfl) rfl ?_
    refine WL.val (Val.loadS rfl (Rd.own1 2 rfl rfl)) rfl ?_
    refine WL.val (Val.ldO 4 rfl rfl rfl) rfl ?_
    (refine WL.buildSlice (by with_unfolding_all exact rfl) rfl (by with_unfolding_all exact rfl) rfl ?_; intro _)
    refine WL.nApp ?_
    rename_i g3 g4
    refine WL.appOne (y := nd) (cs := [vi nd.id, .bool nd.grp, .slice a2 nd.kids.length c2]) 3 5 rfl rfl (hp.mono hI2) rfl rfl (Nd.rep_iff.2 ⟨hid, _, rfl, hks⟩) rfl rfl (by rfl) (by decide) (by omega) (by unfold maxLen; omega) rfl fun aa cc p' hp' => ?_
    refine WL.nSet ?_
    refine WL.val (Val.fldAddr rfl) rfl ?_
    refine WL.stS 2 rfl rfl rfl rfl ?_
    refine WL.nil ?_
    refine WX.thenC ?_
    refine WC.region ?_
    refine WL.val (Val.moveI rfl) rfl ?_
    refine WL.val (Val.moveI rfl) rfl ?_
    refine WL.val (Val.add rfl rfl (wrap_i64 (by omega) (by omega))) rfl ?_
    refine WL.val (Val.assignI rfl) rfl ?_
    refine WL.nil ?_
    refine WX.inNormal ?_
    refine WX.thenC ?_
    refine WC.region ?_
    refine WL.val (Val.moveI rfl) rfl ?_
    refine WL.val (Val.add rfl rfl (wrap_i64 (by omega) (by omega))) rfl ?_
    refine WL.val (Val.assignI rfl) rfl ?_
    refine WL.nil ?_
    have hsz : Nd.sizes (ks ++ [nd]) = Nd.sizes ks + nd.size := by rw [Nd.sizes_app]; simp [Nd.sizes]
    refine WX.conv (fun w h => h.sub [0, 0, 0, 0] rfl) ?_
    refine WX.thenK (WK.round (l.length - (1 + Nd.sizes (ks ++ [nd]))) (by omega) ⟨ks ++ [nd], aa, cc, p', rfl, by omega, hI.trans hI2, rfl, rfl, rfl, rfl, ?_, ?_, ?_, ?_⟩)
    · show vi _ = vi _
      congr 1
      omega
    · show vi _ = vi _
      congr 1
      simp
    · rw [List.length_append]; rfl
    · rw [List.length_append]; exact hp'
end Go.Proofs.Ytfdeckdongonnab

/-
  Tree, the program's: the arena, and what reads it.
-/

namespace Go.Tr
open Go.Sl Go.Ls
structure Cel where
  id : Int
  grp : Bool
  par : Int
  kids : List Int
  kv : Value
/-- A tree of the program: where it lies, its cells, what is free, where IDs are. -/
structure Ar where
  b : Nat
  mb : Nat
  cg : Nat
  cc : Nat
  cells : List Cel
  fv : Value
  free : List Int
  at_ : Int → Option Int
  cnt : Nat
def Cel.cs (c : Cel) : List Value := [vi c.id, .bool c.grp, vi c.par, c.kv]
def Cel.row (c : Cel) : HP := sl 3 1 c.kv c.kids.length (c.kids.map vi)
def Ar.flat (A : Ar) : List Value := (A.cells.map Cel.cs).flatten
def Ar.look (A : Ar) : Int → Option Value := fun k => (A.at_ k).map vi
abbrev Ar.cv (A : Ar) : Value := .slice (some ⟨A.cg, 0, none⟩) A.cells.length A.cc
abbrev Ar.hp (A : Ar) : List HP := [box A.b 77 [A.cv, A.fv, .map (some A.mb)], sl 73 4 A.cv A.cells.length A.flat, sl 3 1 A.fv A.free.length (A.free.map vi), mp A.mb A.look A.cnt, sts (A.cells.map Cel.row)]
abbrev Ar.on (A : Ar) (L : List HP) : List HP := box A.b 77 [A.cv, A.fv, .map (some A.mb)] :: sl 73 4 A.cv A.cells.length A.flat :: sl 3 1 A.fv A.free.length (A.free.map vi) :: mp A.mb A.look A.cnt :: sts (A.cells.map Cel.row) :: L
theorem Ar.at {A : Ar} {i : Nat} (hi : i < A.cells.length) (f : Nat) (hf : f < 4) : A.flat[0 + ((i : Nat) : Int).toNat * 4 + f]? = (A.cells[i]).cs[f]? := by
  have h : ∀ c ∈ A.cells.map Cel.cs, c.length = 4 := fun c hc => by
    obtain ⟨x, _, rfl⟩ := List.mem_map.1 hc; rfl
  rw [Nat.zero_add, Int.toNat_natCast, Ar.flat, flat_at (by decide) _ h i f hf]
  simp [hi]
theorem Ar.c0 {A : Ar} {i : Nat} (hi : i < A.cells.length) : A.flat[0 + ((i : Nat) : Int).toNat * 4]? = some (vi (A.cells[i]).id) := Ar.at hi 0 (by decide)
theorem Ar.c1 {A : Ar} {i : Nat} (hi : i < A.cells.length) : A.flat[0 + ((i : Nat) : Int).toNat * 4 + 1]? = some (.bool (A.cells[i]).grp) := Ar.at hi 1 (by decide)
theorem Ar.c2 {A : Ar} {i : Nat} (hi : i < A.cells.length) : A.flat[0 + ((i : Nat) : Int).toNat * 4 + 2]? = some (vi (A.cells[i]).par) := Ar.at hi 2 (by decide)
theorem Ar.c3 {A : Ar} {i : Nat} (hi : i < A.cells.length) : A.flat[0 + ((i : Nat) : Int).toNat * 4 + 3]? = some (A.cells[i]).kv := Ar.at hi 3 (by decide)
end Go.Tr
namespace Go.Proofs.Ytfdeckdongonnab
open Go.Sl Go.Ls Go.Tr
set_option maxRecDepth 100000
set_option maxHeartbeats 4000000
set_option linter.unusedVariables false
instance : MapK Try.prog 75 (vi 0) := ⟨by kernel_rfl⟩
attribute [local irreducible] WC WL WX WK WA WAK Val Ctr RunRes ResIs Rd At sl box pt Exit.then Exit.inBlock bodyPost Code.wp wpList
theorem tFind (A : Ar) (i : Int) (I : Mem) :
    Ctr Try.prog 41 [ptr A.b, vi i] I A.hp (Keep I A.hp fun v => v = .tuple #[vi ((A.at_ i).getD 0), .bool (A.at_ i).isSome]) := by
  refine Ctr.intro Try.func41 rfl rfl rfl fun E F => ?_
  refine WC.seq ?_
  refine WC.region ?_
  refine WL.val (Val.assignI rfl) rfl ?_
  refine WL.val (Val.assignB rfl) rfl ?_
  refine WL.nil ?_
  refine WX.thenC ?_
  refine WC.seq ?_
  refine WC.region ?_
  refine WL.val (Val.moveP rfl) rfl ?_
  refine WL.val (Val.nilCheckP rfl) rfl ?_
  refine WL.val (Val.fldAddr rfl) rfl ?_
  refine WL.val (Val.loadS rfl (Rd.own1 1 rfl rfl)) rfl ?_
  refine WL.val (Val.moveI rfl) rfl ?_
  refine WL.val (Val.lookup2 4 rfl rfl rfl) rfl ?_
  have he : ((A.look i).getD (vi 0) = vi ((A.at_ i).getD 0)) ∧ (A.look i).isSome = (A.at_ i).isSome := by
    unfold Ar.look
    cases A.at_ i <;> exact ⟨rfl, rfl⟩
  rw [he.1, he.2]
  refine WL.val (Val.moveT rfl) rfl ?_
  refine WL.val (Val.extractI rfl rfl) rfl ?_
  refine WL.val (Val.extractB rfl rfl) rfl ?_
  refine WL.val (Val.assignI rfl) rfl ?_
  refine WL.val (Val.assignB rfl) rfl ?_
  refine WL.nil ?_
  refine WX.thenC ?_
  refine WC.seq ?_
  refine WC.region ?_
  refine WL.val (Val.moveI rfl) rfl ?_
  refine WL.val (Val.moveB rfl) rfl ?_
  refine WL.val (Val.assignI rfl) rfl ?_
  refine WL.val (Val.assignB rfl) rfl ?_
  refine WL.nil ?_
  refine WX.thenC ?_
  refine WC.ret ?_
  apply WX.doneP (ks := [0, 0, 0, 0, 0])
  case hres => exact RunRes.r2 rfl (ResIs.tmpI rfl) (ResIs.tmpB rfl)
  case hI => first | exact Mem.le.refl _ | assumption
  exact ⟨rfl, rfl, rfl⟩
end Go.Proofs.Ytfdeckdongonnab

/-
  Tree, the program's: what reads the arena (1).
-/

namespace Go.Tr
open Go.Sl Go.Ls
/-- What holds of any arena, as bounds. -/
structure Ar.Ok (A : Ar) : Prop where
  len : A.cells.length ≤ 1000000000
  at_lt : ∀ i p, A.at_ i = some p → ∃ n : Nat, p = n ∧ n < A.cells.length
  par : ∀ c ∈ A.cells, I64 c.par
  id : ∀ c ∈ A.cells, I64 c.id
  kidl : ∀ c ∈ A.cells, c.kids.length ≤ 1000000000
/-- The cells from one up to the root. -/
inductive Ch (A : Ar) : Nat → List Nat → Prop where
  | top {i : Nat} (hi : i < A.cells.length) (h : (A.cells[i]).par < 0) : Ch A i [i]
  | up {i p : Nat} {l : List Nat} (hi : i < A.cells.length) (h : (A.cells[i]).par = (p : Int)) (hl : Ch A p l) : Ch A i (i :: l)
def Ar.grp (A : Ar) (i : Int) : Int × Int :=
  match A.at_ i with
  | none => (0, 31)
  | some p => if ((A.cells[p.toNat]?).map Cel.grp).getD false then (p, 0) else (0, 33)
end Go.Tr
namespace Go.Proofs.Ytfdeckdongonnab
open Go.Sl Go.Ls Go.Tr
set_option maxRecDepth 100000
set_option maxHeartbeats 4000000
set_option linter.unusedVariables false
attribute [local irreducible] WC WL WX WK WA WAK Val Ctr RunRes ResIs Rd At sl box pt Exit.then Exit.inBlock bodyPost Code.wp wpList
theorem tCount (A : Ar) (I : Mem) (hc : A.cnt ≤ 1000000000) :
    Ctr Try.prog 12 [ptr A.b] I A.hp (Keep I A.hp fun v => v = vi ((A.cnt : Int) - 1)) := by
  refine Ctr.intro Try.func12 rfl rfl rfl fun E F => ?_
  refine WC.seq ?_
  refine WC.region ?_
  refine WL.val (Val.assignI rfl) rfl ?_
  refine WL.nil ?_
  refine WX.thenC ?_
  refine WC.seq ?_
  refine WC.region ?_
  refine WL.val (Val.moveP rfl) rfl ?_
  refine WL.val (Val.nilCheckP rfl) rfl ?_
  refine WL.val (Val.fldAddr rfl) rfl ?_
  refine WL.val (Val.loadS rfl (Rd.own1 1 rfl rfl)) rfl ?_
  refine WL.val (Val.lenMap 4 rfl rfl) rfl ?_
  refine WL.val (Val.sub rfl rfl (wrap_i64 (by omega) (by omega))) rfl ?_
  refine WL.val (Val.assignI rfl) rfl ?_
  refine WL.nil ?_
  refine WX.thenC ?_
  refine WC.ret ?_
  apply WX.doneP (ks := [0, 0, 0, 0, 0])
  case hres => exact RunRes.r1 rfl (ResIs.tmpI rfl)
  case hI => first | exact Mem.le.refl _ | assumption
  exact ⟨rfl, rfl, rfl⟩
theorem tGroup (A : Ar) (i : Int) (I : Mem) (hA : A.Ok) :
    Ctr Try.prog 36 [ptr A.b, vi i] I A.hp (Keep I A.hp fun v => v = .tuple #[vi (A.grp i).1, vi (A.grp i).2]) := by
  refine Ctr.intro Try.func36 rfl rfl rfl fun E F => ?_
  refine WC.seq ?_
  refine WC.region ?_
  refine WL.val (Val.assignI rfl) rfl ?_
  refine WL.val (Val.assignI rfl) rfl ?_
  refine WL.nil ?_
  refine WX.thenC ?_
  refine WC.seq ?_
  refine WC.region ?_
  refine WL.val (Val.moveP rfl) rfl ?_
  refine WL.val (Val.moveI rfl) rfl ?_
  refine WL.callK [1, 1, 1, 1, 1] rfl rfl rfl (tFind A i _) rfl ?_
  rintro _ rfl
  cases hat : A.at_ i with
  | none =>
    refine WL.val (Val.moveT rfl) rfl ?_
    refine WL.val (Val.extractI rfl rfl) rfl ?_
    refine WL.val (Val.extractB rfl rfl) rfl ?_
    refine WL.val (Val.assignI rfl) rfl ?_
    refine WL.val (Val.assignB rfl) rfl ?_
    refine WL.nil ?_
    refine WX.thenC ?_
    refine WC.seq ?_
    refine WC.block ?_
    refine WC.seq ?_
    refine WC.region ?_
    refine WL.val (Val.moveB rfl) rfl ?_
    refine WL.val (Val.not rfl) rfl ?_
    refine WL.val (Val.assignB rfl) rfl ?_
    refine WL.nil ?_
    refine WX.thenC ?_
    refine WC.condT rfl ?_
    refine WC.seq ?_
    refine WC.region ?_
    refine WL.val (Val.assignI rfl) rfl ?_
    refine WL.val (Val.assignI rfl) rfl ?_
    refine WL.nil ?_
    refine WX.thenC ?_
    refine WC.ret ?_
    refine WX.inRet ?_
    refine WX.thenRet ?_
    apply WX.doneP (ks := [0, 0, 0, 0, 0])
    case hres => exact RunRes.r2 rfl (ResIs.tmpI rfl) (ResIs.tmpI rfl)
    case hI => first | exact Mem.le.refl _ | assumption
    exact ⟨rfl, rfl, by rw [Ar.grp, hat]⟩
  | some p =>
    obtain ⟨n, rfl, hn⟩ := hA.at_lt i p hat
    have h1 := Ar.c1 hn
    simp only [Option.getD_some, Option.isSome_some]
    cases hg : (A.cells[n]).grp
    · rw [hg] at h1
      have hr : A.grp i = (0, 33) := by
        simp only [Ar.grp, hat, Int.toNat_natCast, List.getElem?_eq_getElem hn, Option.map_some, hg, Option.getD_some, Bool.false_eq_true, if_false]
      refine WL.val (Val.moveT rfl) rfl ?_
      refine WL.val (Val.extractI rfl rfl) rfl ?_
      refine WL.val (Val.extractB rfl rfl) rfl ?_
      refine WL.val (Val.assignI rfl) rfl ?_
      refine WL.val (Val.assignB rfl) rfl ?_
      refine WL.nil ?_
      refine WX.thenC ?_
      refine WC.seq ?_
      refine WC.block ?_
      refine WC.seq ?_
      refine WC.region ?_
      refine WL.val (Val.moveB rfl) rfl ?_
      refine WL.val (Val.not rfl) rfl ?_
      refine WL.val (Val.assignB rfl) rfl ?_
      refine WL.nil ?_
      refine WX.thenC ?_
      refine WC.condF rfl ?_
      refine WC.seq ?_
      refine WC.region ?_
      refine WL.val (Val.moveP rfl) rfl ?_
      refine WL.val (Val.nilCheckP rfl) rfl ?_
      refine WL.val (Val.fldAddr rfl) rfl ?_
      refine WL.val (Val.loadS rfl (Rd.own1 1 rfl rfl)) rfl ?_
      refine WL.val (Val.moveI rfl) rfl ?_
      refine WL.val (Val.indexAddr rfl rfl (by omega) (by omega)) rfl ?_
      refine WL.val (Val.fldAddr rfl) rfl ?_
      refine WL.val (Val.loadS rfl (Rd.sl1 2 rfl (by assumption))) rfl ?_
      refine WL.val (Val.not rfl) rfl ?_
      refine WL.val (Val.assignB rfl) rfl ?_
      refine WL.nil ?_
      refine WX.thenC ?_
      refine WC.condT rfl ?_
      refine WC.seq ?_
      refine WC.region ?_
      refine WL.val (Val.assignI rfl) rfl ?_
      refine WL.val (Val.assignI rfl) rfl ?_
      refine WL.nil ?_
      refine WX.thenC ?_
      refine WC.ret ?_
      refine WX.inRet ?_
      refine WX.thenRet ?_
      apply WX.doneP (ks := [0, 0, 0, 0, 0])
      case hres => exact RunRes.r2 rfl (ResIs.tmpI rfl) (ResIs.tmpI rfl)
      case hI => first | exact Mem.le.refl _ | assumption
      exact ⟨rfl, rfl, by rw [hr]⟩
    · rw [hg] at h1
      have hr : A.grp i = ((n : Int), 0) := by
        simp only [Ar.grp, hat, Int.toNat_natCast, List.getElem?_eq_getElem hn, Option.map_some, hg, Option.getD_some, if_true]
      refine WL.val (Val.moveT rfl) rfl ?_
      refine WL.val (Val.extractI rfl rfl) rfl ?_
      refine WL.val (Val.extractB rfl rfl) rfl ?_
      refine WL.val (Val.assignI rfl) rfl ?_
      refine WL.val (Val.assignB rfl) rfl ?_
      refine WL.nil ?_
      refine WX.thenC ?_
      refine WC.seq ?_
      refine WC.block ?_
      refine WC.seq ?_
      refine WC.region ?_
      refine WL.val (Val.moveB rfl) rfl ?_
      refine WL.val (Val.not rfl) rfl ?_
      refine WL.val (Val.assignB rfl) rfl ?_
      refine WL.nil ?_
      refine WX.thenC ?_
      refine WC.condF rfl ?_
      refine WC.seq ?_
      refine WC.region ?_
      refine WL.val (Val.moveP rfl) rfl ?_
      refine WL.val (Val.nilCheckP rfl) rfl ?_
      refine WL.val (Val.fldAddr rfl) rfl ?_
      refine WL.val (Val.loadS rfl (Rd.own1 1 rfl rfl)) rfl ?_
      refine WL.val (Val.moveI rfl) rfl ?_
      refine WL.val (Val.indexAddr rfl rfl (by omega) (by omega)) rfl ?_
      refine WL.val (Val.fldAddr rfl) rfl ?_
      refine WL.val (Val.loadS rfl (Rd.sl1 2 rfl (by assumption))) rfl ?_
      refine WL.val (Val.not rfl) rfl ?_
      refine WL.val (Val.assignB rfl) rfl ?_
      refine WL.nil ?_
      refine WX.thenC ?_
      refine WC.condF rfl ?_
      refine WC.skip ?_
      refine WX.inNormal ?_
      refine WX.thenC ?_
      refine WC.seq ?_
      refine WC.region ?_
      refine WL.val (Val.moveI rfl) rfl ?_
      refine WL.val (Val.assignI rfl) rfl ?_
      refine WL.val (Val.assignI rfl) rfl ?_
      refine WL.nil ?_
      refine WX.thenC ?_
      refine WC.ret ?_
      apply WX.doneP (ks := [0, 0, 0, 0, 0])
      case hres => exact RunRes.r2 rfl (ResIs.tmpI rfl) (ResIs.tmpI rfl)
      case hI => first | exact Mem.le.refl _ | assumption
      exact ⟨rfl, rfl, by rw [hr]⟩
theorem tIsGroup (A : Ar) (i : Int) (I : Mem) (hA : A.Ok) :
    Ctr Try.prog 29 [ptr A.b, vi i] I A.hp (Keep I A.hp fun v => v = .bool ((A.grp i).2 == 0)) := by
  refine Ctr.intro Try.func29 rfl rfl rfl fun E F => ?_
  refine WC.seq ?_
  refine WC.region ?_
  refine WL.val (Val.assignB rfl) rfl ?_
  refine WL.nil ?_
  refine WX.thenC ?_
  refine WC.seq ?_
  refine WC.region ?_
  refine WL.val (Val.moveP rfl) rfl ?_
  refine WL.val (Val.moveI rfl) rfl ?_
  refine WL.callK [1, 1, 1, 1, 1] rfl rfl rfl (tGroup A i _ hA) rfl ?_
  rintro _ rfl
  refine WL.val (Val.moveT rfl) rfl ?_
  refine WL.val (Val.extractI rfl rfl) rfl ?_
  refine WL.val (Val.extractI rfl rfl) rfl ?_
  refine WL.val (Val.assignI rfl) rfl ?_
  refine WL.val (Val.assignI rfl) rfl ?_
  refine WL.nil ?_
  refine WX.thenC ?_
  refine WC.seq ?_
  refine WC.region ?_
  refine WL.val (Val.moveI rfl) rfl ?_
  refine WL.val (Val.eql rfl rfl rfl) rfl ?_
  refine WL.val (Val.assignB rfl) rfl ?_
  refine WL.nil ?_
  refine WX.thenC ?_
  refine WC.ret ?_
  apply WX.doneP (ks := [0, 0, 0, 0, 0])
  case hres => exact RunRes.r1 rfl (ResIs.tmpB rfl)
  case hI => first | exact Mem.le.refl _ | assumption
  exact ⟨rfl, rfl, rfl⟩
theorem tInner (A : Ar) (i : Int) (I : Mem) :
    Ctr Try.prog 45 [ptr A.b, vi i] I A.hp (Keep I A.hp fun v => v = if i = 0 then .tuple #[vi 0, vi 30] else match A.at_ i with | none => .tuple #[vi 0, vi 31] | some p => .tuple #[vi p, vi 0]) := by
  refine Ctr.intro Try.func45 rfl rfl rfl fun E F => ?_
  by_cases h0 : i = 0
  · skip
    refine WC.seq ?_
    refine WC.region ?_
    refine WL.val (Val.assignI rfl) rfl ?_
    refine WL.val (Val.assignI rfl) rfl ?_
    refine WL.nil ?_
    refine WX.thenC ?_
    refine WC.seq ?_
    refine WC.seq ?_
    refine WC.region ?_
    refine WL.val (Val.moveI rfl) rfl ?_
    refine WL.val (Val.eql rfl rfl (beq_iff_eq.2 (by omega))) rfl ?_
    refine WL.nil ?_
    refine WX.thenC ?_
    refine WC.condT rfl ?_
    refine WC.seq ?_
    refine WC.region ?_
    refine WL.val (Val.assignI rfl) rfl ?_
    refine WL.val (Val.assignI rfl) rfl ?_
    refine WL.nil ?_
    refine WX.thenC ?_
    refine WC.ret ?_
    refine WX.thenRet ?_
    apply WX.doneP (ks := [0, 0, 0, 0, 0])
    case hres => exact RunRes.r2 rfl (ResIs.tmpI rfl) (ResIs.tmpI rfl)
    case hI => first | exact Mem.le.refl _ | assumption
    exact ⟨rfl, rfl, by rw [if_pos h0]⟩
  refine WC.seq ?_
  refine WC.region ?_
  refine WL.val (Val.assignI rfl) rfl ?_
  refine WL.val (Val.assignI rfl) rfl ?_
  refine WL.nil ?_
  refine WX.thenC ?_
  refine WC.seq ?_
  refine WC.seq ?_
  refine WC.region ?_
  refine WL.val (Val.moveI rfl) rfl ?_
  refine WL.val (Val.eql rfl rfl (beq_eq_false_iff_ne.2 (by omega))) rfl ?_
  refine WL.nil ?_
  refine WX.thenC ?_
  refine WC.condF rfl ?_
  refine WC.skip ?_
  refine WX.thenC ?_
  refine WC.seq ?_
  refine WC.region ?_
  refine WL.val (Val.moveP rfl) rfl ?_
  refine WL.val (Val.moveI rfl) rfl ?_
  refine WL.callK [1, 1, 1, 1, 1] rfl rfl rfl (tFind A i _) rfl ?_
  rintro _ rfl
  cases hat : A.at_ i with
  | none =>
    refine WL.val (Val.moveT rfl) rfl ?_
    refine WL.val (Val.extractI rfl rfl) rfl ?_
    refine WL.val (Val.extractB rfl rfl) rfl ?_
    refine WL.val (Val.assignI rfl) rfl ?_
    refine WL.val (Val.assignB rfl) rfl ?_
    refine WL.nil ?_
    refine WX.thenC ?_
    refine WC.seq ?_
    refine WC.seq ?_
    refine WC.region ?_
    refine WL.val (Val.moveB rfl) rfl ?_
    refine WL.val (Val.not rfl) rfl ?_
    refine WL.nil ?_
    refine WX.thenC ?_
    refine WC.condT rfl ?_
    refine WC.seq ?_
    refine WC.region ?_
    refine WL.val (Val.assignI rfl) rfl ?_
    refine WL.val (Val.assignI rfl) rfl ?_
    refine WL.nil ?_
    refine WX.thenC ?_
    refine WC.ret ?_
    refine WX.thenRet ?_
    apply WX.doneP (ks := [0, 0, 0, 0, 0])
    case hres => exact RunRes.r2 rfl (ResIs.tmpI rfl) (ResIs.tmpI rfl)
    case hI => first | exact Mem.le.refl _ | assumption
    exact ⟨rfl, rfl, by rw [if_neg h0]⟩
  | some p =>
    simp only [Option.getD_some, Option.isSome_some]
    refine WL.val (Val.moveT rfl) rfl ?_
    refine WL.val (Val.extractI rfl rfl) rfl ?_
    refine WL.val (Val.extractB rfl rfl) rfl ?_
    refine WL.val (Val.assignI rfl) rfl ?_
    refine WL.val (Val.assignB rfl) rfl ?_
    refine WL.nil ?_
    refine WX.thenC ?_
    refine WC.seq ?_
    refine WC.seq ?_
    refine WC.region ?_
    refine WL.val (Val.moveB rfl) rfl ?_
    refine WL.val (Val.not rfl) rfl ?_
    refine WL.nil ?_
    refine WX.thenC ?_
    refine WC.condF rfl ?_
    refine WC.skip ?_
    refine WX.thenC ?_
    refine WC.seq ?_
    refine WC.region ?_
    refine WL.val (Val.moveI rfl) rfl ?_
    refine WL.val (Val.assignI rfl) rfl ?_
    refine WL.val (Val.assignI rfl) rfl ?_
    refine WL.nil ?_
    refine WX.thenC ?_
    refine WC.ret ?_
    apply WX.doneP (ks := [0, 0, 0, 0, 0])
    case hres => exact RunRes.r2 rfl (ResIs.tmpI rfl) (ResIs.tmpI rfl)
    case hI => first | exact Mem.le.refl _ | assumption
    exact ⟨rfl, rfl, by rw [if_neg h0]⟩
theorem tDepthP (A : Ar) (i : Nat) (l : List Nat) (I : Mem) (hA : A.Ok) (hl : Ch A i l) (hll : l.length ≤ 1000000000) :
    Ctr Try.prog 38 [ptr A.b, vi i] I A.hp (Keep I A.hp fun v => v = vi ((l.length : Int) - 1)) := by
  refine Ctr.intro Try.func38 rfl rfl rfl fun E F => ?_
  refine WC.seq ?_
  refine WC.region ?_
  refine WL.val (Val.assignI rfl) rfl ?_
  refine WL.nil ?_
  refine WX.thenC ?_
  refine WC.seq ?_
  refine WC.region ?_
  refine WL.val (Val.assignI rfl) rfl ?_
  refine WL.nil ?_
  refine WX.thenC ?_
  refine WC.seq ?_
  refine WC.block ?_
  refine WC.loop (fun n ρ' I' L' => ∃ (j m : Nat) (r : List Nat), n = r.length ∧ Ch A j r ∧ m + r.length = l.length ∧ I' = I ∧ ρ' 0 = ptr A.b ∧ ρ' 1 = vi j ∧ ρ' 5 = vi m ∧ L' = F :: A.hp)
    l.length ⟨i, 0, l, rfl, hl, by omega, rfl, rfl, rfl, rfl, rfl⟩ ?_
  rintro n ρ' I0 L' ⟨j, m, r, rfl, hr, hm, rfl, h0, h1, h5, rfl⟩
  rw [← upd_self h5, ← upd_self h1, ← upd_self h0]
  clear h5 h1 h0
  cases hr with
  | top hj hp =>
    have hc := Ar.c2 hj
    refine WC.seq ?_
    refine WC.seq ?_
    refine WC.region ?_
    refine WL.val (Val.moveP rfl) rfl ?_
    refine WL.val (Val.nilCheckP rfl) rfl ?_
    refine WL.val (Val.fldAddr rfl) rfl ?_
    refine WL.val (Val.loadS rfl (Rd.own1 1 rfl rfl)) rfl ?_
    refine WL.val (Val.moveI rfl) rfl ?_
    refine WL.val (Val.indexAddr rfl rfl (by omega) (by omega)) rfl ?_
    refine WL.val (Val.fldAddr rfl) rfl ?_
    refine WL.val (Val.loadS rfl (Rd.sl1 2 rfl (by assumption))) rfl ?_
    refine WL.val (Val.geq rfl rfl (decide_eq_false (by omega))) rfl ?_
    refine WL.nil ?_
    refine WX.thenC ?_
    refine WC.condF rfl ?_
    refine WC.exit ?_
    refine WX.thenExit ?_
    refine WX.thenExit ?_
    refine WX.inHit ?_
    refine WX.thenC ?_
    refine WC.seq ?_
    refine WC.region ?_
    refine WL.val (Val.moveI rfl) rfl ?_
    refine WL.val (Val.assignI rfl) rfl ?_
    refine WL.nil ?_
    refine WX.thenC ?_
    refine WC.ret ?_
    apply WX.doneP (ks := [0, 0, 0, 0, 0])
    case hres => exact RunRes.r1 rfl (ResIs.tmpI rfl)
    case hI => first | exact Mem.le.refl _ | assumption
    refine ⟨rfl, rfl, ?_⟩
    congr 1
    simp only [List.length_cons, List.length_nil] at hm
    omega
  | up hj hp hr =>
    rename_i p r
    have hc := Ar.c2 hj
    rw [hp] at hc
    simp only [List.length_cons] at hm
    refine WC.seq ?_
    refine WC.seq ?_
    refine WC.region ?_
    refine WL.val (Val.moveP rfl) rfl ?_
    refine WL.val (Val.nilCheckP rfl) rfl ?_
    refine WL.val (Val.fldAddr rfl) rfl ?_
    refine WL.val (Val.loadS rfl (Rd.own1 1 rfl rfl)) rfl ?_
    refine WL.val (Val.moveI rfl) rfl ?_
    refine WL.val (Val.indexAddr rfl rfl (by omega) (by omega)) rfl ?_
    refine WL.val (Val.fldAddr rfl) rfl ?_
    refine WL.val (Val.loadS rfl (Rd.sl1 2 rfl (by assumption))) rfl ?_
    refine WL.val (Val.geq rfl rfl (decide_eq_true (by omega))) rfl ?_
    refine WL.nil ?_
    refine WX.thenC ?_
    refine WC.condT rfl ?_
    refine WC.skip ?_
    refine WX.thenC ?_
    refine WC.seq ?_
    refine WC.block ?_
    refine WC.region ?_
    refine WL.val (Val.moveI rfl) rfl ?_
    refine WL.val (Val.add rfl rfl (wrap_i64 (by omega) (by omega))) rfl ?_
    refine WL.val (Val.assignI rfl) rfl ?_
    refine WL.nil ?_
    refine WX.inNormal ?_
    refine WX.thenC ?_
    refine WC.region ?_
    refine WL.val (Val.moveP rfl) rfl ?_
    refine WL.val (Val.nilCheckP rfl) rfl ?_
    refine WL.val (Val.fldAddr rfl) rfl ?_
    refine WL.val (Val.loadS rfl (Rd.own1 1 rfl rfl)) rfl ?_
    refine WL.val (Val.moveI rfl) rfl ?_
    refine WL.val (Val.indexAddr rfl rfl (by omega) (by omega)) rfl ?_
    refine WL.val (Val.fldAddr rfl) rfl ?_
    refine WL.val (Val.loadS rfl (Rd.sl1 2 rfl (by assumption))) rfl ?_
    refine WL.val (Val.assignI rfl) rfl ?_
    refine WL.nil ?_
    refine WX.thenK (WK.round r.length (by simp) ⟨p, m + 1, r, rfl, hr, by omega, rfl, rfl, rfl, rfl, rfl⟩)
end Go.Proofs.Ytfdeckdongonnab
