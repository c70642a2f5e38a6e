/-
  limnerlaw19.CodeEntries: for every input the law returns true. No condition but what the card ties: the package variable limner/path.needs holds what its initialiser lays.
-/
import Derived.Test.YtfdeckdongonnaaDoorC34
namespace Go.Proofs.YtfdeckdongonnaaDoor
open Go.ChangeShapes Go.WideShapes Go.ChangeAt Go.RowKit Go.Sl Go.Cd
set_option maxRecDepth 100000

theorem params7 : Tryd.f7.params = #[24] := by kernel_rfl
theorem codeEntries_contract (H : Type) (enc : TypeId × Value → H) (W : World) (base : Nat) (args : Array Value) (ds gs : List (DataW H)) (before : List MemPlace)
    (hval0 : ∀ (j : Nat) t v, Tryd.f7.params[j]? = some t → args[j]? = some v → Value.okWide Tryd.prog W .any base t v)
    (hW : DataW.Whole enc Tryd.prog Tryd.f7.params.toList Rows.codeEntriesSpec.vars false W args.toList ds gs before) (hL : laidMetH Tryd.prog Rows.codeReadsRow.laid W) :
    Calls Tryd.prog 7 args W fun e W' => ∃ v, e = .returned v ∧ Rows.codeEntriesSpec.post enc Tryd.prog Tryd.f7 false true false false W args v W' := by
  have hval := hval0
  have hW' := hW
  obtain ⟨p, q, hA0, hV, rfl, hfz, hnd⟩ := hW
  have hA : DataW.TrodAll enc Tryd.prog W 0 (fun _ => true) true Tryd.f7.params.toList args.toList ds p := hA0
  rw [params7] at hA hval
  obtain ⟨v0, d0, rfl, rfl, h0⟩ := trodAll_one hA
  obtain ⟨rfl, rfl⟩ := trodVars_none hV
  have hlt : ∀ x ∈ p, x.block < W.heap.size := fun x hx => hW'.lt x (by simp [hx])
  clear hA0 hval0
  simp only [List.append_nil] at hW'
  obtain ⟨a, len, cap, rfl⟩ := okWide_slice (t := 24) sl24Und (hval 0 24 v0 rfl rfl)
  obtain ⟨x, v, e, hx⟩ := open_ents (TrodOk.of h0)
  cases e
  have walk := codeEntries_ctr x _ (heapOf W) (needAt hL) hx
  refine (Ctr.calls walk).mono fun e W' ⟨v, I', L', he, hb, hR⟩ => ?_
  obtain ⟨_, rfl⟩ := hR
  subst he
  exact ⟨_, rfl, _, _, _, [], p, [], hW', trodAll_mk1 (shut_bool und4 true), trodAll_mk1 (Below.trod Tryd.laidOut (by kernel_rfl) (of_decide_eq_true (by kernel_rfl)) h0 hb hlt), rfl, hb.frame _, fun h => by cases h⟩
theorem codeEntries_laid (os : Os) : laidMet Tryd.prog Rows.codeEntriesRow.laid ((laidWorld os).forCall (fun _ _ => 0) ⟨#[], #[.slice none 0 0], []⟩).memory :=
  laidMet_of_run' 8 (by kernel_rfl) (by kernel_rfl)
set_option maxRecDepth 100000 in
theorem codeEntries_lifted (os : Os) (started : os.Started) (H : Type) (enc : TypeId × Value → H) (F : Stop.Interp) :
    ReturnsInHanded {} Tryd.checked os 7 .any ((OpenSpec.ofChange Rows.codeEntriesSpec).preRow enc Tryd.prog Tryd.f7 Rows.codeEntriesRow.domain false Rows.codeEntriesRow.laid) (((OpenSpec.ofChange Rows.codeEntriesSpec).at F).post enc Tryd.prog Tryd.f7 false true false false) := by
  obtain ⟨x, hx⟩ := some_of (o := DataW.whole enc Tryd.prog ((laidWorld os).forCall (fun _ _ => 0) ⟨#[], #[.slice none 0 0], []⟩).memory Tryd.f7.params.toList Rows.codeEntriesSpec.vars false #[(.slice none 0 0 : Value)].toList 8) (by kernel_rfl)
  refine returnsInHanded_of_row (C := Tryd.checked) (s := OpenSpec.ofChange Rows.codeEntriesSpec) Tryd.own started (by kernel_rfl) Tryd.func7
    (witness_row_at (enc := enc) (C := Tryd.checked) false (laidWorld os) #[.slice none 0 0] rfl (by kernel_rfl) (by kernel_rfl) (by kernel_rfl)
      (OpenSpec.preRow_of_cond 8 hx (by kernel_rfl) (fun k hk => by cases hk) (by kernel_rfl) (codeEntries_laid os))) ?_
  intro W base args ds gs before hval hW _ _ _ hL _ _
  exact codeEntries_contract H enc W base args ds gs before hval hW hL
theorem codeEntries_said : Rows.CodeEntriesSaid :=
  OpenClaim.holds_of_cond 7 Tryd.f7 rfl rfl rfl rfl rfl rfl rfl ⟨rfl, rfl, rfl, rfl, rfl⟩ rfl rfl rfl rfl rfl (by kernel_rfl) Tryd.func7 (by kernel_rfl)
    (of_decide_eq_true (by kernel_rfl)) (by unfold Func.isWrapper; first | (rw [if_pos (by decide +kernel)]; kernel_rfl) | (rw [if_neg (by decide +kernel)]; exact ⟨rfl, rfl⟩))
    (fun os started H enc _ F => by rw [OpenClaim.pre_eq_preRow]; exact codeEntries_lifted os started H enc F)
theorem codeEntries_plain (f : FuncId) (fn : Func) (hf : Tryd.pinned.checked.prog.funcNamed "limner/limnerlaw19.CodeEntries" = some f) (hfn : Tryd.pinned.checked.prog.funcs[f]? = some fn) :
    false = Tryd.pinned.checked.prog.looks [] ∧ ∀ (j : Nat) t, fn.params[j]? = some t → Tryd.pinned.checked.prog.wantsStandIn t = false := by
  obtain rfl : f = 7 := Option.some.inj ((show Tryd.prog.funcNamed "limner/limnerlaw19.CodeEntries" = some 7 by kernel_rfl).symm.trans hf) |>.symm
  obtain rfl : fn = Tryd.f7 := (Option.some.inj (Tryd.func7.symm.trans hfn)).symm
  refine ⟨by kernel_rfl, fun j t ht => ?_⟩
  rw [params7] at ht
  obtain rfl : t = 24 := by simpa using Array.mem_of_getElem? ht
  exact (show Tryd.prog.wantsStandIn 24 = false by kernel_rfl)
/-- THE CARD of limnerlaw19.CodeEntries. -/
theorem codeEntries_card : Rows.CodeEntriesCardSaid :=
  Claim7.holds_tied_plain_at .later [] _ _ _ _ codeEntries_said (fun _ h => by cases h) (by kernel_rfl) (fun _ h => by cases h) codeEntries_row_tie rfl ⟨rfl, rfl⟩ (by kernel_rfl) rfl codeEntries_plain (by kernel_rfl)
#print axioms codeEntries_card
end Go.Proofs.YtfdeckdongonnaaDoor
