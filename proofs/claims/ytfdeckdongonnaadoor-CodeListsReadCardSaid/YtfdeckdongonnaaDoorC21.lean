/-
  Code, the walks: encode.
-/
import Derived.Test.YtfdeckdongonnaaDoorC20
namespace Go.Proofs.YtfdeckdongonnaaDoor
open Go.Sl Go.Cd
set_option maxRecDepth 100000
set_option maxHeartbeats 4000000
set_option linter.unusedVariables false
attribute [local irreducible] WC WL WX WK WA WAK Val Ctr RunRes ResIs Rd At sl box pt Exit.then Exit.inBlock bodyPost Code.wp wpList
/-- (*frame.Out).Bytes -/
theorem bytes_ctr (o ty : Nat) (sv : Value) (tl : List Value) (bs : Bs) (I : Mem) (hl : bs.length ≤ 1099511627776) :
    Ctr Tryd.prog 44 [ptr o] I [box o ty (sv :: tl), sl 5 1 sv bs.length (bs.map byt)] (fun v I' L' => L' = [] ∧ Byt I' v bs) := by
  refine Ctr.intro Tryd.func44 rfl rfl rfl fun E F => ?_
  refine WC.seq ?_
  refine WC.region ?_
  refine WL.val (Val.assignS rfl) rfl ?_
  refine WL.nil ?_
  refine WX.thenC ?_
  refine WC.seq ?_
  refine WC.region ?_
  refine WL.val (Val.moveP rfl) rfl ?_
  refine WL.val (Val.nilCheckP rfl) rfl ?_
  refine WL.val (Val.fldAddr rfl) rfl ?_
  refine WL.val (Val.loadS rfl (Rd.own1 1 rfl rfl)) rfl ?_
  refine WL.freeze 2 rfl fun I1 hI1 hA => ?_
  refine WL.callP [] rfl rfl (clone_ctr sv bs _ hA hl) rfl ?_
  rintro v I2 _ hI2 ⟨rfl, hB⟩
  obtain ⟨a, cap, rfl, hc⟩ := SlAt.len hB
  refine WL.nApp ?_
  refine WL.val (Val.assignS rfl) rfl ?_
  refine WL.nil ?_
  refine WX.thenC ?_
  refine WC.ret ?_
  have hI := hI1.trans hI2
  apply WX.doneP (ks := [])
  case hres => exact RunRes.r1 rfl (ResIs.tmpS rfl)
  case hI => first | exact Mem.le.refl _ | assumption
  exact ⟨rfl, hB⟩
/-- encode: the bytes of what a function writes. -/
theorem encode_ctr (f : Nat) [FnK Tryd.prog f] (a : Value) (w : Bs) (ok : Bool) (I : Mem) (hl : w.length ≤ 1099511627776)
    (hf : ∀ o sv I', I.le I' → Ctr Tryd.prog f [ptr o, a] I' (outL o sv false []) (WrP o w (false || !ok) [])) :
    Ctr Tryd.prog 39 [.func (.func f) #[] #[a]] I [] (fun v I' L' => L' = [] ∧ ∃ v1, v = .tuple #[v1, vi (if ok then 0 else 20)] ∧ Byt I' v1 (if ok then w else [])) := by
  refine Ctr.intro Tryd.func39 rfl rfl rfl fun E F => ?_
  refine WC.seq ?_
  refine WC.region ?_
  refine WL.val (Val.assignS rfl) rfl ?_
  refine WL.val (Val.assignI rfl) rfl ?_
  refine WL.nil ?_
  refine WX.thenC ?_
  refine WC.seq ?_
  refine WC.region ?_
  refine WL.val (Val.build (cs := [.slice none 0 0, .bool false]) rfl) rfl ?_
  (refine WL.box rfl rfl ?_; intro _)
  refine WL.nApp ?_
  refine WL.val (Val.assignP rfl) rfl ?_
  refine WL.nil ?_
  refine WX.thenC ?_
  refine WC.seq ?_
  refine WC.region ?_
  refine WL.val (Val.moveF rfl) rfl ?_
  refine WL.val (Val.moveP rfl) rfl ?_
  rename_i g
  refine WL.slNil 5 1 ?_
  refine WL.nApp ?_
  refine WL.conv (L' := F :: outL g (.slice none 0 0) false []) (fun w h => h) ?_
  refine WL.callP [1, 1] rfl rfl (hf g (.slice none 0 0) _ (Mem.le.refl _)) rfl ?_
  rintro _ I1 _ hI1 ⟨sv1, rfl⟩
  cases ok
  · skip
    refine WL.nApp ?_
    refine WL.nil ?_
    refine WX.thenC ?_
    refine WC.seq ?_
    refine WC.seq ?_
    refine WC.region ?_
    refine WL.val (Val.moveP rfl) rfl ?_
    refine WL.val (Val.nilCheckP rfl) rfl ?_
    refine WL.val (Val.fldAddr rfl) rfl ?_
    refine WL.val (Val.loadS rfl (Rd.own1 1 rfl rfl)) rfl ?_
    refine WL.nil ?_
    refine WX.thenC ?_
    refine WC.condT rfl ?_
    refine WC.seq ?_
    refine WC.region ?_
    refine WL.val (Val.assignS rfl) rfl ?_
    refine WL.val (Val.assignI rfl) rfl ?_
    refine WL.nil ?_
    refine WX.thenC ?_
    refine WC.ret ?_
    refine WX.thenRet ?_
    apply WX.doneP (ks := [])
    case hres => exact RunRes.r2 rfl (ResIs.tmpS rfl) (ResIs.tmpI rfl)
    case hI => first | exact Mem.le.refl _ | assumption
    exact ⟨rfl, _, rfl, Byt.nil _⟩
  · skip
    refine WL.nApp ?_
    refine WL.nil ?_
    refine WX.thenC ?_
    refine WC.seq ?_
    refine WC.seq ?_
    refine WC.region ?_
    refine WL.val (Val.moveP rfl) rfl ?_
    refine WL.val (Val.nilCheckP rfl) rfl ?_
    refine WL.val (Val.fldAddr rfl) rfl ?_
    refine WL.val (Val.loadS rfl (Rd.own1 1 rfl rfl)) rfl ?_
    refine WL.nil ?_
    refine WX.thenC ?_
    refine WC.condF rfl ?_
    refine WC.skip ?_
    refine WX.thenC ?_
    refine WC.seq ?_
    refine WC.region ?_
    refine WL.val (Val.moveP rfl) rfl ?_
    refine WL.val (Val.nilCheckP rfl) rfl ?_
    refine WL.val (Val.fldAddr rfl) rfl ?_
    refine WL.callP [1, 1] rfl rfl (bytes_ctr g 116 sv1 [.bool false] ([] ++ w) _ (by simpa using hl)) rfl ?_
    rintro v I2 _ hI2 ⟨rfl, hB⟩
    obtain ⟨b1, cap, rfl, hc⟩ := SlAt.len hB
    refine WL.nApp ?_
    refine WL.val (Val.assignS rfl) rfl ?_
    refine WL.val (Val.assignI rfl) rfl ?_
    refine WL.nil ?_
    refine WX.thenC ?_
    refine WC.ret ?_
    have hI := hI1.trans hI2
    apply WX.doneP (ks := [])
    case hres => exact RunRes.r2 rfl (ResIs.tmpS rfl) (ResIs.tmpI rfl)
    case hI => first | exact Mem.le.refl _ | assumption
    exact ⟨rfl, _, rfl, hB⟩
end Go.Proofs.YtfdeckdongonnaaDoor
