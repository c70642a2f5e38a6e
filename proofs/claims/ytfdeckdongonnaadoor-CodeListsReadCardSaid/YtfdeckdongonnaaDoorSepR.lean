/-
  From a contract to the kit's words on a call: what lay there before the call lies there behind it.
-/
import Derived.Test.YtfdeckdongonnaaDoorSepG
import Derived.Below
namespace Go.Sl
open Go.RowKit
def heapOf (W : World) : Mem := fun b => W.heap[b]?
theorem Ctr.calls {P : Program} {f : FuncId} {args : List Value} {W : World} {R : Value → Mem → List HP → Prop} (h : Ctr P f args (heapOf W) [] R) :
    Calls P f args.toArray W fun e w' => ∃ v I' L', e = .returned v ∧ Below W.heap.size W w' ∧ R v I' L' := by
  refine (h ⟨W.tape, W.os, W.output⟩ W (fun _ => True) ⟨rfl, rfl, rfl, fun b o hb => hb, fun _ => none, fun _ _ hb => (by cases hb), fun b => .inr rfl, fun _ => none, fun _ => none, fun _ _ hb => hb, fun _ _ hb => hb, fun _ => .inl rfl, trivial, trivial⟩).mono ?_
  rintro e w' ⟨v, I', L', he, hI, hw, hR⟩
  have key : ∀ k, k < W.heap.size → w'.heap[k]? = W.heap[k]? := fun k hk => by
    have h1 : W.heap[k]? = some W.heap[k] := Array.getElem?_eq_getElem hk
    rw [h1]
    exact hw.imm k _ (hI k _ h1)
  refine ⟨v, I', L', he, ⟨hw.os, hw.tape, hw.output, ?_, key⟩, hR⟩
  rcases Nat.eq_zero_or_pos W.heap.size with h0 | h0
  · omega
  · have h1 := key (W.heap.size - 1) (by omega)
    have h2 : W.heap[W.heap.size - 1]? = some W.heap[W.heap.size - 1] := Array.getElem?_eq_getElem (by omega)
    rw [h2] at h1
    have := (Array.getElem?_eq_some_iff.1 h1).1
    omega
end Go.Sl
