/-
 Drawings: arguments that read as data are commands, entries, bytes.
-/
import Derived.Test.YtggcpoleklcmkaaGreatDoorX8
import Derived.Test.YtggcpoleklcmkaaGreatDoorX4
import Derived.Test.YtggcpoleklcmkaaGreatDoorX2
import Derived.Lib.LaidTab
import Derived.Test.YtggcpoleklcmkaaGreatDoorCards
import Derived.Test.YtggcpoleklcmkaaGreatDoorTie
import Derived.ProofKit
import Derived.Carry
import Derived.Lib.SmallJoins
import Derived.Deep.DeepHandedRow
import Derived.Test.YtggcpoleklcmkaaGreatDoorX13
set_option linter.unusedVariables false
set_option linter.unusedSimpArgs false
set_option maxRecDepth 100000
set_option maxHeartbeats 8000000
namespace Go.Proofs.YtggcpoleklcmkaaGreatDoor
open Go.Sl Go.Ls Go.Dc
section
variable {H : Type} {enc : TypeId × Value → H} {W : World}
end
theorem At.of_cells {W : World} {b off : Nat} {cs : List Value} (h0 : 0 < cs.length) (h : ∀ j v, cs[j]? = some v → W.cell? ⟨b, off + j, none⟩ = some v) : At (heapOf W) b off cs := by
 have h1 := h 0 cs[0] (List.getElem?_eq_getElem h0)
 unfold World.cell? at h1
 cases hb : W.heap[b]? with
 | none => simp [hb] at h1
 | some o => cases o with
  | cells c ty fr =>
   refine ⟨c, ty, fr, hb, fun j v hj => ?_⟩
   have := h j v hj
   simpa [World.cell?, hb] using this
  | _ => simp [hb] at h1
open Go.ChangeShapes Go.WideShapes Go.ChangeAt Go.RowKit Go.Sl Go.Ls Go.Dc
theorem Tryz.own : ownKnob Tryz.prog.godebug = none := by kernel_rfl
theorem Tryz.laidOut : laidOutB Tryz.prog = true := by kernel_rfl
theorem gNeed : Tryz.prog.globalNamed "limner/path.needs" = some 0 := by kernel_rfl
theorem gNeedType : (Tryz.prog.globals[0]?).map (·.type) = some 163 := by kernel_rfl
theorem cellsN : Tryz.prog.cellsOf 163 = 6 := by kernel_rfl
theorem cells3 : Tryz.prog.cellsOf 3 = 1 := by kernel_rfl
theorem undN : Tryz.prog.underlying 163 = some (.array 6 3) := by kernel_rfl
theorem und3 : Tryz.prog.underlying 3 = some (.int .i64) := by kernel_rfl
theorem und4 : Tryz.prog.underlying 4 = some .bool := by kernel_rfl
theorem needAt {W : World} (h : laidMetH Tryz.prog Rows.docAttrsRow.laid W) : NeedAt (heapOf W) := by
 have ht : Lib.TabIs Tryz.prog W "limner/path.needs" .i64 [0, 1, 1, 2, 3, 0] := Lib.tabIs_of_head (rest := []) gNeed gNeedType undN und3 cells3 cellsN h
 refine At.of_cells (by decide) fun j v hj => ?_
 have hl : j < 6 := by
  rcases Nat.lt_or_ge j 6 with h | h
  ·exact h
  ·rw [List.getElem?_eq_none (by simpa using h)] at hj; cases hj
 have hj' : j = 0 ∨ j = 1 ∨ j = 2 ∨ j = 3 ∨ j = 4 ∨ j = 5 := by omega
 rcases hj' with rfl | rfl | rfl | rfl | rfl | rfl <;> (cases hj; exact ht.cell gNeed _ (by decide))
noncomputable def laidWorld (os : Os) : World :=
 { World.holding Tryz.prog os ⟨#[], #[], []⟩ with heap := (World.holding Tryz.prog os ⟨#[], #[], []⟩).heap.modify 0 fun
   | .cells _ t frozen => .cells #[.int .i64 0, .int .i64 1, .int .i64 1, .int .i64 2, .int .i64 3, .int .i64 0] t frozen
   | o => o }
theorem some_of {α : Type} {o : Option α} (h : o.isSome = true) : ∃ x, o = some x := by
 cases o with
 | none => cases h
 | some x => exact ⟨x, rfl⟩
open Go.ChangeShapes Go.WideShapes Go.ChangeAt Go.RowKit Go.Joins Go.Sl Go.Ls Go.Tr Go.Dc
theorem historyBound_params : Tryz.f10.params = #[3, 3] := by kernel_rfl
theorem historyBound_contract (H : Type) (enc : TypeId × Value → H) (W : World) (base : Nat) (args : Array Value) (ds gs : List (DataW H)) (before : List MemPlace)
  (hval0 : ∀ (j : Nat) t v, Tryz.f10.params[j]? = some t → args[j]? = some v → Value.okWide Tryz.prog W .any base t v)
  (hW : DataW.Whole enc Tryz.prog Tryz.f10.params.toList Rows.historyBoundSpec.vars false W args.toList ds gs before) (hL : laidMetH Tryz.prog Rows.historyBoundRow.laid W) :
  Calls Tryz.prog 10 args W fun e W' => ∃ v, e = .returned v ∧ Rows.historyBoundSpec.post enc Tryz.prog Tryz.f10 false true false false W args v W' := by
 have hval := hval0
 have hW' := hW
 obtain ⟨p, q, hA0, hV, rfl, hfz, hnd⟩ := hW
 have hA : DataW.TrodAll enc Tryz.prog W 0 (fun _ => true) true Tryz.f10.params.toList args.toList ds p := hA0
 rw [historyBound_params] at hA hval
 obtain ⟨v0, v1, d0, d1, p0, p1, rfl, rfl, rfl, h0, h1⟩ := trodAll_two hA
 obtain ⟨rfl, rfl⟩ := trodVars_none hV
 have hlt0 : ∀ x ∈ p0, x.block < W.heap.size := fun x hx => hW'.lt x (by simp [hx])
 have hlt1 : ∀ x ∈ p1, x.block < W.heap.size := fun x hx => hW'.lt x (by simp [hx])
 clear hA0 hval0
 simp only [List.append_nil] at hW'
 obtain ⟨n0, rfl⟩ := okWide_int und3 (hval 0 3 v0 rfl rfl)
 obtain ⟨x0, e0, hx0⟩ := (TrodOk.of h0).int und3
 cases e0
 obtain ⟨n1, rfl⟩ := okWide_int und3 (hval 1 3 v1 rfl rfl)
 obtain ⟨x1, e1, hx1⟩ := (TrodOk.of h1).int und3
 cases e1
 have walk := hBound n0 n1 (heapOf W) (needAt hL) hx0 hx1
 refine (Ctr.calls walk).mono fun e W' ⟨v, I', L', he, hb, hR⟩ => ?_
 obtain ⟨_, rfl⟩ := hR
 subst he
 have h9 := trodAll_mk2 (Below.trod Tryz.laidOut (by kernel_rfl) (of_decide_eq_true (by kernel_rfl)) h0 hb hlt0) (Below.trod Tryz.laidOut (by kernel_rfl) (of_decide_eq_true (by kernel_rfl)) h1 hb hlt1)
 exact ⟨_, rfl, _, _, _, [], _, [], hW', trodAll_mk1 (shut_bool und4 true), h9, rfl, hb.frame _, fun h => by cases h⟩
theorem historyBound_laid (os : Os) : laidMet Tryz.prog Rows.historyBoundRow.laid ((laidWorld os).forCall (fun _ _ => 0) ⟨#[], #[vi 0, vi 0], []⟩).memory :=
 laidMet_of_run' 8 (by kernel_rfl) (by kernel_rfl)
set_option maxRecDepth 100000 in
theorem historyBound_lifted (os : Os) (started : os.Started) (H : Type) (enc : TypeId × Value → H) (F : Stop.Interp) :
  ReturnsInHanded {} Tryz.checked os 10 .any ((OpenSpec.ofChange Rows.historyBoundSpec).preRow enc Tryz.prog Tryz.f10 Rows.historyBoundRow.domain false Rows.historyBoundRow.laid) (((OpenSpec.ofChange Rows.historyBoundSpec).at F).post enc Tryz.prog Tryz.f10 false true false false) := by
 obtain ⟨x, hx⟩ := some_of (o := DataW.whole enc Tryz.prog ((laidWorld os).forCall (fun _ _ => 0) ⟨#[], #[vi 0, vi 0], []⟩).memory Tryz.f10.params.toList Rows.historyBoundSpec.vars false (#[vi 0, vi 0] : Array Value).toList 8) (by kernel_rfl)
 refine returnsInHanded_of_row (C := Tryz.checked) (s := OpenSpec.ofChange Rows.historyBoundSpec) Tryz.own started (by kernel_rfl) Tryz.func10
  (witness_row_at (enc := enc) (C := Tryz.checked) false (laidWorld os) #[vi 0, vi 0] rfl (by kernel_rfl) (by kernel_rfl) (by kernel_rfl)
   (OpenSpec.preRow_of_cond 8 hx (by kernel_rfl) (fun k hk => by cases hk) (by kernel_rfl) (historyBound_laid os))) ?_
 intro W base args ds gs before hval hW _ _ _ hL _ _
 exact historyBound_contract H enc W base args ds gs before hval hW hL
theorem historyBound_said : Rows.HistoryBoundSaid :=
 OpenClaim.holds_of_cond 10 Tryz.f10 rfl rfl rfl rfl rfl rfl rfl ⟨rfl, rfl, rfl, rfl, rfl⟩ rfl rfl rfl rfl rfl (by kernel_rfl) Tryz.func10 (by kernel_rfl)
  (of_decide_eq_true (by kernel_rfl)) (by unfold Func.isWrapper; first | (rw [if_pos (by decide +kernel)]; kernel_rfl) | (rw [if_neg (by decide +kernel)]; exact ⟨rfl, rfl⟩))
  (fun os started H enc _ F => by rw [OpenClaim.pre_eq_preRow]; exact historyBound_lifted os started H enc F)
theorem historyBound_plain (f : FuncId) (fn : Func) (hf : Tryz.pinned.checked.prog.funcNamed "limner/limnerlaw20.HistoryBound" = some f) (hfn : Tryz.pinned.checked.prog.funcs[f]? = some fn) :
  true = Tryz.pinned.checked.prog.looks [] ∧ ∀ (j : Nat) t, fn.params[j]? = some t → Tryz.pinned.checked.prog.wantsStandIn t = false := by
 obtain rfl : f = 10 := Option.some.inj ((show Tryz.prog.funcNamed "limner/limnerlaw20.HistoryBound" = some 10 by kernel_rfl).symm.trans hf) |>.symm
 obtain rfl : fn = Tryz.f10 := (Option.some.inj (Tryz.func10.symm.trans hfn)).symm
 refine ⟨by kernel_rfl, fun j t ht => ?_⟩
 rw [historyBound_params] at ht
 have h9 : t = 3 := by simpa using Array.mem_of_getElem? ht
 subst h9
 exact (show Tryz.prog.wantsStandIn 3 = false by kernel_rfl)
theorem historyBound_card : Rows.HistoryBoundCardSaid :=
 Claim7.holds_tied_plain_at .later [] _ _ _ _ historyBound_said (fun _ h => by cases h) (by kernel_rfl) (fun _ h => by cases h) historyBound_row_tie rfl ⟨rfl, rfl⟩ (by kernel_rfl) rfl historyBound_plain (by kernel_rfl)
#print axioms historyBound_card
end Go.Proofs.YtggcpoleklcmkaaGreatDoor
