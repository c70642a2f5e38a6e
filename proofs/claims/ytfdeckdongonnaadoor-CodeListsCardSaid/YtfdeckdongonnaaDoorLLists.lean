/-
  limnerlaw19.CodeLists: for every input the law returns true. No condition but what the card ties: the package variable limner/path.needs holds what its initialiser lays.
-/
import Derived.Test.YtfdeckdongonnaaDoorC34
namespace Go.Proofs.YtfdeckdongonnaaDoor
open Go.ChangeShapes Go.WideShapes Go.ChangeAt Go.RowKit Go.Sl Go.Cd
set_option maxRecDepth 100000

theorem params5 : Tryd.f5.params = #[56] := by kernel_rfl
theorem codeLists_contract (H : Type) (enc : TypeId × Value → H) (W : World) (base : Nat) (args : Array Value) (ds gs : List (DataW H)) (before : List MemPlace)
    (hval0 : ∀ (j : Nat) t v, Tryd.f5.params[j]? = some t → args[j]? = some v → Value.okWide Tryd.prog W .any base t v)
    (hW : DataW.Whole enc Tryd.prog Tryd.f5.params.toList Rows.codeListsSpec.vars false W args.toList ds gs before) (hL : laidMetH Tryd.prog Rows.codeReadsRow.laid W) :
    Calls Tryd.prog 5 args W fun e W' => ∃ v, e = .returned v ∧ Rows.codeListsSpec.post enc Tryd.prog Tryd.f5 false true false false W args v W' := by
  have hval := hval0
  have hW' := hW
  obtain ⟨p, q, hA0, hV, rfl, hfz, hnd⟩ := hW
  have hA : DataW.TrodAll enc Tryd.prog W 0 (fun _ => true) true Tryd.f5.params.toList args.toList ds p := hA0
  rw [params5] at hA hval
  obtain ⟨v0, d0, rfl, rfl, h0⟩ := trodAll_one hA
  obtain ⟨rfl, rfl⟩ := trodVars_none hV
  have hlt : ∀ x ∈ p, x.block < W.heap.size := fun x hx => hW'.lt x (by simp [hx])
  clear hA0 hval0
  simp only [List.append_nil] at hW'
  obtain ⟨a, len, cap, rfl⟩ := okWide_slice (t := 56) sl56Und (hval 0 56 v0 rfl rfl)
  obtain ⟨x, v, e, hx⟩ := open_cms (TrodOk.of h0)
  cases e
  have walk := codeLists_ctr x _ (heapOf W) (needAt hL) hx
  refine (Ctr.calls walk).mono fun e W' ⟨v, I', L', he, hb, hR⟩ => ?_
  obtain ⟨_, rfl⟩ := hR
  subst he
  exact ⟨_, rfl, _, _, _, [], p, [], hW', trodAll_mk1 (shut_bool und4 true), trodAll_mk1 (Below.trod Tryd.laidOut (by kernel_rfl) (of_decide_eq_true (by kernel_rfl)) h0 hb hlt), rfl, hb.frame _, fun h => by cases h⟩
theorem codeLists_laid (os : Os) : laidMet Tryd.prog Rows.codeListsRow.laid ((laidWorld os).forCall (fun _ _ => 0) ⟨#[], #[.slice none 0 0], []⟩).memory :=
  laidMet_of_run' 8 (by kernel_rfl) (by kernel_rfl)
set_option maxRecDepth 100000 in
theorem codeLists_lifted (os : Os) (started : os.Started) (H : Type) (enc : TypeId × Value → H) (F : Stop.Interp) :
    ReturnsInHanded {} Tryd.checked os 5 .any ((OpenSpec.ofChange Rows.codeListsSpec).preRow enc Tryd.prog Tryd.f5 Rows.codeListsRow.domain false Rows.codeListsRow.laid) (((OpenSpec.ofChange Rows.codeListsSpec).at F).post enc Tryd.prog Tryd.f5 false true false false) := by
  obtain ⟨x, hx⟩ := some_of (o := DataW.whole enc Tryd.prog ((laidWorld os).forCall (fun _ _ => 0) ⟨#[], #[.slice none 0 0], []⟩).memory Tryd.f5.params.toList Rows.codeListsSpec.vars false #[(.slice none 0 0 : Value)].toList 8) (by kernel_rfl)
  refine returnsInHanded_of_row (C := Tryd.checked) (s := OpenSpec.ofChange Rows.codeListsSpec) Tryd.own started (by kernel_rfl) Tryd.func5
    (witness_row_at (enc := enc) (C := Tryd.checked) false (laidWorld os) #[.slice none 0 0] rfl (by kernel_rfl) (by kernel_rfl) (by kernel_rfl)
      (OpenSpec.preRow_of_cond 8 hx (by kernel_rfl) (fun k hk => by cases hk) (by kernel_rfl) (codeLists_laid os))) ?_
  intro W base args ds gs before hval hW _ _ _ hL _ _
  exact codeLists_contract H enc W base args ds gs before hval hW hL
theorem codeLists_said : Rows.CodeListsSaid :=
  OpenClaim.holds_of_cond 5 Tryd.f5 rfl rfl rfl rfl rfl rfl rfl ⟨rfl, rfl, rfl, rfl, rfl⟩ rfl rfl rfl rfl rfl (by kernel_rfl) Tryd.func5 (by kernel_rfl)
    (of_decide_eq_true (by kernel_rfl)) (by unfold Func.isWrapper; first | (rw [if_pos (by decide +kernel)]; kernel_rfl) | (rw [if_neg (by decide +kernel)]; exact ⟨rfl, rfl⟩))
    (fun os started H enc _ F => by rw [OpenClaim.pre_eq_preRow]; exact codeLists_lifted os started H enc F)
theorem codeLists_plain (f : FuncId) (fn : Func) (hf : Tryd.pinned.checked.prog.funcNamed "limner/limnerlaw19.CodeLists" = some f) (hfn : Tryd.pinned.checked.prog.funcs[f]? = some fn) :
    false = Tryd.pinned.checked.prog.looks [] ∧ ∀ (j : Nat) t, fn.params[j]? = some t → Tryd.pinned.checked.prog.wantsStandIn t = false := by
  obtain rfl : f = 5 := Option.some.inj ((show Tryd.prog.funcNamed "limner/limnerlaw19.CodeLists" = some 5 by kernel_rfl).symm.trans hf) |>.symm
  obtain rfl : fn = Tryd.f5 := (Option.some.inj (Tryd.func5.symm.trans hfn)).symm
  refine ⟨by kernel_rfl, fun j t ht => ?_⟩
  rw [params5] at ht
  obtain rfl : t = 56 := by simpa using Array.mem_of_getElem? ht
  exact (show Tryd.prog.wantsStandIn 56 = false by kernel_rfl)
/-- THE CARD of limnerlaw19.CodeLists. -/
theorem codeLists_card : Rows.CodeListsCardSaid :=
  Claim7.holds_tied_plain_at .later [] _ _ _ _ codeLists_said (fun _ h => by cases h) (by kernel_rfl) (fun _ h => by cases h) codeLists_row_tie rfl ⟨rfl, rfl⟩ (by kernel_rfl) rfl codeLists_plain (by kernel_rfl)
#print axioms codeLists_card
end Go.Proofs.YtfdeckdongonnaaDoor
