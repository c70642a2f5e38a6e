/-
  Tree, the program's: Equal, by slices.EqualFunc.
-/
import Derived.Test.YtfdeckdongonnabN5
import Derived.Test.YtfdeckdongonnabB3
import Derived.Test.YtfdeckdongonnabB2
namespace Go.Proofs.Ytfdeckdongonnab
open Go.Sl Go.Ls Go.Tr
set_option maxRecDepth 100000
set_option maxHeartbeats 8000000
set_option linter.unusedVariables false
attribute [local irreducible] WC WL WX WK WA WAK Val Ctr RunRes ResIs Rd At sl box pt Exit.then Exit.inBlock bodyPost Code.wp wpList
theorem sEqF (l m : List Nd) (lv mv : Value) (I : Mem) (hl : LsAt Nd.Rp I l lv) (hm : LsAt Nd.Rp I m mv) (hlen : l.length ≤ 1099511627776)
    (ih : ∀ nd ∈ l, ∀ (x : Nd) (kv xv : Value), I64 nd.id → LsAt Nd.Rp I nd.kids kv → I64 x.id → LsAt Nd.Rp I x.kids xv → Ctr Try.prog 30 [.agg #[vi nd.id, .bool nd.grp, kv], .agg #[vi x.id, .bool x.grp, xv]] I [] (Still I (EqP (nd = x)))) :
    Ctr Try.prog 59 [lv, mv, .func (.func 30) #[] #[]] I [] (Still I (EqP (l = m))) := by
  obtain ⟨a1, c1, rfl⟩ := hl.sl
  obtain ⟨a9, c9, rfl⟩ := hm.sl
  have hml := hm.le
  refine Ctr.intro Try.func59 rfl rfl rfl fun E F => ?_
  by_cases he : l.length = m.length
  case neg =>
    refine WC.seq ?_
    refine WC.region ?_
    refine WL.val (Val.assignB rfl) rfl ?_
    refine WL.nil ?_
    refine WX.thenC ?_
    refine WC.seq ?_
    refine WC.seq ?_
    refine WC.region ?_
    refine WL.val (Val.moveS rfl) rfl ?_
    refine WL.val (Val.len rfl) rfl ?_
    refine WL.val (Val.moveS rfl) rfl ?_
    refine WL.val (Val.len rfl) rfl ?_
    refine WL.val (Val.neq rfl rfl (bne_iff_ne.2 (by omega))) rfl ?_
    refine WL.nil ?_
    refine WX.thenC ?_
    refine WC.condT rfl ?_
    refine WC.seq ?_
    refine WC.region ?_
    refine WL.val (Val.assignB rfl) rfl ?_
    refine WL.nil ?_
    refine WX.thenC ?_
    refine WC.ret ?_
    refine WX.thenRet ?_
    apply WX.doneP (ks := [])
    case hres => exact RunRes.r1 rfl (ResIs.tmpB rfl)
    case hI => first | exact Mem.le.refl _ | assumption
    exact ⟨rfl, rfl, EqP.f fun hh => he (by rw [hh])⟩
  refine WC.seq ?_
  refine WC.region ?_
  refine WL.val (Val.assignB rfl) rfl ?_
  refine WL.nil ?_
  refine WX.thenC ?_
  refine WC.seq ?_
  refine WC.seq ?_
  refine WC.region ?_
  refine WL.val (Val.moveS rfl) rfl ?_
  refine WL.val (Val.len rfl) rfl ?_
  refine WL.val (Val.moveS rfl) rfl ?_
  refine WL.val (Val.len rfl) rfl ?_
  refine WL.val (Val.neq rfl rfl (bne_eq_false_iff_eq.2 (by omega))) rfl ?_
  refine WL.nil ?_
  refine WX.thenC ?_
  refine WC.condF rfl ?_
  refine WC.skip ?_
  refine WX.thenC ?_
  refine WC.seq ?_
  refine WC.seq ?_
  refine WC.region ?_
  refine WL.val (Val.moveS rfl) rfl ?_
  refine WL.val (Val.len rfl) rfl ?_
  refine WL.val (Val.moveI rfl) rfl ?_
  refine WL.nil ?_
  refine WX.thenC ?_
  refine WC.block ?_
  refine WC.loop (fun n ρ' I' L' => ∃ k : Nat, n = l.length - k ∧ k ≤ l.length ∧ I' = I ∧ ρ' 1 = .slice a9 m.length c9 ∧ ρ' 2 = .func (.func 30) #[] #[] ∧ ρ' 15 = .slice a1 l.length c1 ∧ ρ' 16 = vi l.length ∧ ρ' 17 = vi k ∧ L' = [F] ∧ l.take k = m.take k)
    l.length ⟨0, rfl, by omega, rfl, rfl, rfl, rfl, rfl, rfl, rfl, rfl⟩ ?_
  rintro n ρ' I0 L' ⟨k, rfl, hk, rfl, h1, h2, h15, h16, h17, rfl, htk⟩
  rw [← upd_self h17, ← upd_self h16, ← upd_self h15, ← upd_self h2, ← upd_self h1]
  clear h17 h16 h15 h2 h1
  by_cases hkn : k < l.length
  · obtain ⟨b, off, cap', cs, he1, hR, hA⟩ := hl.get k hkn
    cases he1
    obtain ⟨hi, kv', rfl, hks⟩ := Nd.rep_iff.1 hR
    have hks0 := hks
    obtain ⟨a2, c2, rfl⟩ := hks.sl
    have hkx : k < m.length := by omega
    obtain ⟨b', off', cap'', cs, he2, hR', hA'⟩ := hm.get k hkx
    cases he2
    obtain ⟨hi', kv', rfl, hks'⟩ := Nd.rep_iff.1 hR'
    have hks1 := hks'
    obtain ⟨a3, c3, rfl⟩ := hks'.sl
    refine WC.seq ?_
    refine WC.region ?_
    refine WL.val (Val.lss rfl rfl (decide_eq_true (by omega))) rfl ?_
    refine WL.nil ?_
    refine WX.thenC ?_
    refine WC.seq ?_
    refine WC.condT rfl ?_
    refine WC.skip ?_
    refine WX.thenC ?_
    refine WC.seq ?_
    refine WC.block ?_
    refine WC.seq ?_
    refine WC.region ?_
    refine WL.val (Val.moveI rfl) rfl ?_
    refine WL.val (Val.indexAddr rfl rfl (by omega) (by omega)) rfl ?_
    refine WL.val (Val.loadI rfl (by assumption) rfl) rfl ?_
    (refine WL.alloc rfl ?_; intro _)
    refine WL.nApp ?_
    refine WL.val (Val.assignI rfl) rfl ?_
    refine WL.stA 1 rfl rfl rfl rfl ?_
    refine WL.nil ?_
    refine WX.thenC ?_
    refine WC.seq ?_
    refine WC.region ?_
    refine WL.val (Val.moveS rfl) rfl ?_
    refine WL.val (Val.moveI rfl) rfl ?_
    refine WL.val (Val.indexAddr rfl rfl (by omega) (by omega)) rfl ?_
    refine WL.val (Val.loadI rfl (by assumption) rfl) rfl ?_
    (refine WL.alloc rfl ?_; intro _)
    refine WL.nApp ?_
    refine WL.stA 2 rfl rfl rfl rfl ?_
    refine WL.nil ?_
    refine WX.thenC ?_
    refine WC.seq ?_
    refine WC.region ?_
    refine WL.val (Val.moveF rfl) rfl ?_
    refine WL.val (Val.ldO 1 rfl rfl rfl) rfl ?_
    refine WL.val (Val.ldO 2 rfl rfl rfl) rfl ?_
    refine WL.callE rfl rfl (ih _ (List.getElem_mem hkn) _ _ _ hi hks hi' hks') rfl (fun hq => ?_) (fun hq => ?_)
    · skip
      refine WL.val (Val.not rfl) rfl ?_
      refine WL.nil ?_
      refine WX.thenC ?_
      refine WC.condF rfl ?_
      refine WC.skip ?_
      refine WX.inNormal ?_
      refine WX.thenC ?_
      refine WC.region ?_
      refine WL.val (Val.add rfl rfl (wrap_i64 (by omega) (by omega))) rfl ?_
      refine WL.val (Val.moveI rfl) rfl ?_
      refine WL.nil ?_
      refine WX.conv (fun w h => h.sub [0] rfl) ?_
      refine WX.thenK (WK.round (l.length - (k + 1)) (by omega) ⟨k + 1, rfl, by omega, rfl, rfl, rfl, rfl, rfl, rfl, rfl, ?_⟩)
      rw [take1 _ _ hkn, take1 _ _ hkx, htk, hq]
    · skip
      refine WL.val (Val.not rfl) rfl ?_
      refine WL.nil ?_
      refine WX.thenC ?_
      refine WC.condT rfl ?_
      refine WC.seq ?_
      refine WC.region ?_
      refine WL.val (Val.assignB rfl) rfl ?_
      refine WL.nil ?_
      refine WX.thenC ?_
      refine WC.ret ?_
      refine WX.inRet ?_
      refine WX.thenRet ?_
      refine WX.thenRet ?_
      refine WX.inRet ?_
      refine WX.thenRet ?_
      apply WX.doneP (ks := [])
      case hres => exact RunRes.r1 rfl (ResIs.tmpB rfl)
      case hI => first | exact Mem.le.refl _ | assumption
      exact ⟨rfl, rfl, EqP.f fun hh => hq (by subst hh; rfl)⟩
  · skip
    refine WC.seq ?_
    refine WC.region ?_
    refine WL.val (Val.lss rfl rfl (decide_eq_false (by omega))) rfl ?_
    refine WL.nil ?_
    refine WX.thenC ?_
    refine WC.seq ?_
    refine WC.condF rfl ?_
    refine WC.exit ?_
    refine WX.thenExit ?_
    refine WX.thenExit ?_
    refine WX.inHit ?_
    refine WX.thenC ?_
    refine WC.seq ?_
    refine WC.region ?_
    refine WL.val (Val.assignB rfl) rfl ?_
    refine WL.nil ?_
    refine WX.thenC ?_
    refine WC.ret ?_
    apply WX.doneP (ks := [])
    case hres => exact RunRes.r1 rfl (ResIs.tmpB rfl)
    case hI => first | exact Mem.le.refl _ | assumption
    have : k = l.length := by omega
    rw [this, List.take_length, he, List.take_length] at htk
    exact ⟨rfl, rfl, EqP.t htk⟩
theorem tEqual (N : Nat) : ∀ (nd : Nd), nd.size ≤ N → ∀ (x : Nd) (kv xv : Value) (I : Mem), nd.size ≤ 1099511627776 → I64 nd.id → LsAt Nd.Rp I nd.kids kv → I64 x.id → LsAt Nd.Rp I x.kids xv →
    Ctr Try.prog 30 [.agg #[vi nd.id, .bool nd.grp, kv], .agg #[vi x.id, .bool x.grp, xv]] I [] (Still I (EqP (nd = x))) := by
  induction N with
  | zero => intro nd h; have := nd.size_pos; omega
  | succ N ih =>
    intro nd hs x kv xv I hb hid hkv hix hxv
    have hlen := hkv.le
    have hsz := sizes_lt nd
    have hll := Nd.len_le_sizes nd.kids
    have hkv0 := hkv
    have hxv0 := hxv
    obtain ⟨a1, c1, rfl⟩ := hkv.sl
    obtain ⟨a9, c9, rfl⟩ := hxv.sl
    refine Ctr.intro Try.func30 rfl rfl rfl fun E F => ?_
    by_cases e1 : nd.id = x.id
    case neg =>
      refine WC.seq ?_
      refine WC.region ?_
      (refine WL.boxA rfl rfl ?_; intro _)
      refine WL.nApp ?_
      (refine WL.boxA rfl rfl ?_; intro _)
      refine WL.nApp ?_
      refine WL.val (Val.assignB rfl) rfl ?_
      refine WL.nil ?_
      refine WX.thenC ?_
      refine WC.seq ?_
      refine WC.region ?_
      refine WL.val (Val.fldAddr rfl) rfl ?_
      refine WL.val (Val.loadS rfl (Rd.own1 1 rfl rfl)) rfl ?_
      refine WL.val (Val.fldAddr rfl) rfl ?_
      refine WL.val (Val.loadS rfl (Rd.own1 2 rfl rfl)) rfl ?_
      refine WL.val (Val.eql rfl rfl (beq_eq_false_iff_ne.2 (by omega))) rfl ?_
      refine WL.val (Val.moveB rfl) rfl ?_
      refine WL.gF rfl rfl rfl rfl ?_
      refine WL.gF rfl rfl rfl rfl ?_
      refine WL.gF rfl rfl rfl rfl ?_
      refine WL.gF rfl rfl rfl rfl ?_
      refine WL.gF rfl rfl rfl rfl ?_
      refine WL.val (Val.pick rfl) rfl ?_
      refine WL.val (Val.moveB rfl) rfl ?_
      refine WL.gF rfl rfl rfl rfl ?_
      refine WL.gF rfl rfl rfl rfl ?_
      refine WL.gF rfl rfl rfl rfl ?_
      refine WL.gF rfl rfl rfl rfl ?_
      refine WL.gF rfl rfl rfl rfl ?_
      refine WL.val (Val.pick rfl) rfl ?_
      refine WL.val (Val.assignB rfl) rfl ?_
      refine WL.nil ?_
      refine WX.thenC ?_
      refine WC.ret ?_
      apply WX.doneP (ks := [])
      case hres => exact RunRes.r1 rfl (ResIs.tmpB rfl)
      case hI => first | exact Mem.le.refl _ | assumption
      exact ⟨rfl, rfl, EqP.f fun hh => e1 (by rw [hh])⟩
    by_cases e2 : nd.grp = x.grp
    case neg =>
      have e2b := beq_eq_false_iff_ne.2 e2
      refine WC.seq ?_
      refine WC.region ?_
      (refine WL.boxA rfl rfl ?_; intro _)
      refine WL.nApp ?_
      (refine WL.boxA rfl rfl ?_; intro _)
      refine WL.nApp ?_
      refine WL.val (Val.assignB rfl) rfl ?_
      refine WL.nil ?_
      refine WX.thenC ?_
      refine WC.seq ?_
      refine WC.region ?_
      refine WL.val (Val.fldAddr rfl) rfl ?_
      refine WL.val (Val.loadS rfl (Rd.own1 1 rfl rfl)) rfl ?_
      refine WL.val (Val.fldAddr rfl) rfl ?_
      refine WL.val (Val.loadS rfl (Rd.own1 2 rfl rfl)) rfl ?_
      refine WL.val (Val.eql rfl rfl (beq_iff_eq.2 (by omega))) rfl ?_
      refine WL.val (Val.moveB rfl) rfl ?_
      refine WL.gT rfl rfl ?_
      refine WL.val (Val.fldAddr rfl) rfl ?_
      refine WL.gT rfl rfl ?_
      refine WL.val (Val.loadS rfl (Rd.own1 1 rfl rfl)) rfl ?_
      refine WL.gT rfl rfl ?_
      refine WL.val (Val.fldAddr rfl) rfl ?_
      refine WL.gT rfl rfl ?_
      refine WL.val (Val.loadS rfl (Rd.own1 2 rfl rfl)) rfl ?_
      refine WL.gT rfl rfl ?_
      refine WL.val (Val.eqlB rfl rfl) rfl ?_
      refine WL.val (Val.pick rfl) rfl ?_
      refine WL.val (Val.moveB rfl) rfl ?_
      rw [e2b]
      refine WL.gF rfl rfl rfl rfl ?_
      refine WL.gF rfl rfl rfl rfl ?_
      refine WL.gF rfl rfl rfl rfl ?_
      refine WL.gF rfl rfl rfl rfl ?_
      refine WL.gF rfl rfl rfl rfl ?_
      refine WL.val (Val.pick rfl) rfl ?_
      refine WL.val (Val.assignB rfl) rfl ?_
      refine WL.nil ?_
      refine WX.thenC ?_
      refine WC.ret ?_
      apply WX.doneP (ks := [])
      case hres => exact RunRes.r1 rfl (ResIs.tmpB rfl)
      case hI => first | exact Mem.le.refl _ | assumption
      exact ⟨rfl, rfl, EqP.f fun hh => e2 (by rw [hh])⟩
    have e2b := beq_iff_eq.2 e2
    refine WC.seq ?_
    refine WC.region ?_
    (refine WL.boxA rfl rfl ?_; intro _)
    refine WL.nApp ?_
    (refine WL.boxA rfl rfl ?_; intro _)
    refine WL.nApp ?_
    refine WL.val (Val.assignB rfl) rfl ?_
    refine WL.nil ?_
    refine WX.thenC ?_
    refine WC.seq ?_
    refine WC.region ?_
    refine WL.val (Val.fldAddr rfl) rfl ?_
    refine WL.val (Val.loadS rfl (Rd.own1 1 rfl rfl)) rfl ?_
    refine WL.val (Val.fldAddr rfl) rfl ?_
    refine WL.val (Val.loadS rfl (Rd.own1 2 rfl rfl)) rfl ?_
    refine WL.val (Val.eql rfl rfl (beq_iff_eq.2 (by omega))) rfl ?_
    refine WL.val (Val.moveB rfl) rfl ?_
    refine WL.gT rfl rfl ?_
    refine WL.val (Val.fldAddr rfl) rfl ?_
    refine WL.gT rfl rfl ?_
    refine WL.val (Val.loadS rfl (Rd.own1 1 rfl rfl)) rfl ?_
    refine WL.gT rfl rfl ?_
    refine WL.val (Val.fldAddr rfl) rfl ?_
    refine WL.gT rfl rfl ?_
    refine WL.val (Val.loadS rfl (Rd.own1 2 rfl rfl)) rfl ?_
    refine WL.gT rfl rfl ?_
    refine WL.val (Val.eqlB rfl rfl) rfl ?_
    refine WL.val (Val.pick rfl) rfl ?_
    refine WL.val (Val.moveB rfl) rfl ?_
    rw [e2b]
    refine WL.gT rfl rfl ?_
    refine WL.val (Val.fldAddr rfl) rfl ?_
    refine WL.gT rfl rfl ?_
    refine WL.val (Val.loadS rfl (Rd.own1 1 rfl rfl)) rfl ?_
    refine WL.gT rfl rfl ?_
    refine WL.val (Val.fldAddr rfl) rfl ?_
    refine WL.gT rfl rfl ?_
    refine WL.val (Val.loadS rfl (Rd.own1 2 rfl rfl)) rfl ?_
    refine WL.gT rfl rfl ?_
    refine WL.callE rfl rfl (sEqF nd.kids x.kids _ _ _ hkv hxv (by omega) fun k hk y kw yw h1 h2 h3 h4 => ih k (by have := Nd.size_le_sizes hk; omega) y kw yw _ (by have := Nd.size_le_sizes hk; omega) h1 h2 h3 h4) rfl (fun hq => ?_) (fun hq => ?_)
    · skip
      refine WL.val (Val.pick rfl) rfl ?_
      refine WL.val (Val.assignB rfl) rfl ?_
      refine WL.nil ?_
      refine WX.thenC ?_
      refine WC.ret ?_
      apply WX.doneP (ks := [])
      case hres => exact RunRes.r1 rfl (ResIs.tmpB rfl)
      case hI => first | exact Mem.le.refl _ | assumption
      exact ⟨rfl, rfl, EqP.t (Nd.ext_iff.2 ⟨e1, e2, hq⟩)⟩
    · skip
      refine WL.val (Val.pick rfl) rfl ?_
      refine WL.val (Val.assignB rfl) rfl ?_
      refine WL.nil ?_
      refine WX.thenC ?_
      refine WC.ret ?_
      apply WX.doneP (ks := [])
      case hres => exact RunRes.r1 rfl (ResIs.tmpB rfl)
      case hI => first | exact Mem.le.refl _ | assumption
      exact ⟨rfl, rfl, EqP.f fun hh => hq (by rw [hh])⟩
end Go.Proofs.Ytfdeckdongonnab

/-
  Tree: TreeFinds.
-/

namespace Go.Sl
section
variable {Γ : Cx} {ρ : Nat → Value} {I : Mem} {L : List HP} {ty : TypeId}
-- PICKB
theorem Val.pickBT {c x y : Operand} {b : Bool} (hc : ev ρ c = .bool true) (hx : ev ρ x = .bool b) : Val Γ ρ I L (.pick c x y) ty (.bool b) := by
  have := Val.pick (Γ := Γ) (I := I) (L := L) (ty := ty) (x := x) (y := y) hc
  rw [← hx]; exact this
theorem Val.pickBF {c x y : Operand} {b : Bool} (hc : ev ρ c = .bool false) (hy : ev ρ y = .bool b) : Val Γ ρ I L (.pick c x y) ty (.bool b) := by
  have := Val.pick (Γ := Γ) (I := I) (L := L) (ty := ty) (x := x) (y := y) hc
  rw [← hy]; exact this
end
end Go.Sl
namespace Go.Tr
open Go.Sl Go.Ls
theorem LsAt.tail {α : Type} {R : Rep α} {sz : Nat} [hL : RepLen R sz] {I : Mem} {l : List α} {b off cap : Nat} (h : LsAt R I l (.slice (some ⟨b, off, none⟩) l.length cap)) (h0 : 0 < l.length) (hc : cap ≤ maxLen) : LsAt R I l.tail (.slice (some ⟨b, if cap = 1 then off else off + 1 * sz, none⟩) (l.length - 1) (cap - 1)) := by
  by_cases h1 : cap = 1
  · have hl := h.cap
    have : l.length = 1 := by omega
    match l, this with
    | [x], _ => exact ⟨[], ⟨_, cap - 1, rfl, ⟨Nat.zero_le _, by omega⟩, .inl ⟨rfl, rfl⟩⟩, trivial⟩
  · rw [if_neg h1]
    have := h.drop 1 h0
    rw [List.drop_one] at this
    exact this
theorem kidsOf (r : Option Nd) : ((r.map fun n => n.kids.map Nd.id).getD []) = (r.getD Nd.zero).kids.map Nd.id := by cases r <;> rfl
end Go.Tr
namespace Go.Proofs.Ytfdeckdongonnab
open Go.Sl Go.Ls Go.Tr
set_option maxRecDepth 100000
set_option maxHeartbeats 8000000
set_option linter.unusedVariables false
theorem Fnd.uni {I : Mem} {r : Option Nd} {v : Value} (h : Fnd I r v) : ∃ kv, v = .tuple #[.agg #[vi (r.getD Nd.zero).id, .bool (r.getD Nd.zero).grp, kv], .bool r.isSome] ∧ I64 (r.getD Nd.zero).id ∧ LsAt Nd.Rp I (r.getD Nd.zero).kids kv := by
  rcases h with ⟨m, kv, rfl, rfl, h1, h2⟩ | ⟨rfl, rfl⟩
  · exact ⟨kv, rfl, h1, h2⟩
  · exact ⟨_, rfl, i64_0, LsAt.nil _ _⟩
theorem WhrP.eq {r : Option (Int × Int)} {v : Value} (h : WhrP r v) : v = whrV r := by
  rcases h with ⟨p, i, rfl, rfl⟩ | ⟨rfl, rfl⟩ <;> rfl
attribute [local irreducible] WC WL WX WK WA WAK Val Ctr RunRes ResIs Rd At sl box pt Exit.then Exit.inBlock bodyPost Code.wp wpList
theorem tFinds (l : List Opn) (lv : Value) (id : Int) (I : Mem) (hlv : LsAt Opn.rep I l lv) (hid : I64 id) :
    Ctr Try.prog 8 [lv, vi id] I [] (KeepR [] fun v _ => v = .bool true) := by
  obtain ⟨a1, c1, rfl⟩ := hlv.sl
  refine Ctr.intro Try.func8 rfl rfl rfl fun E F => ?_
  refine WC.seq ?_
  refine WC.region ?_
  refine WL.val (Val.assignB rfl) rfl ?_
  refine WL.nil ?_
  refine WX.thenC ?_
  refine WC.seq ?_
  refine WC.seq ?_
  refine WC.region ?_
  refine WL.val (Val.moveS rfl) rfl ?_
  refine WL.callE rfl rfl (rSmall l _ _ hlv) rfl (fun hs => ?_) (fun hs => ?_)
  case refine_2 =>
    refine WL.val (Val.not rfl) rfl ?_
    refine WL.nil ?_
    refine WX.thenC ?_
    refine WC.condT rfl ?_
    refine WC.seq ?_
    refine WC.region ?_
    refine WL.callP [] rfl rfl (tAwake _) rfl ?_
    rintro _ I2 _ hI2 ⟨rfl, rfl⟩
    refine WL.nApp ?_
    refine WL.val (Val.assignB rfl) rfl ?_
    refine WL.nil ?_
    refine WX.thenC ?_
    refine WC.ret ?_
    refine WX.thenRet ?_
    apply WX.doneP (ks := [])
    case hres => exact RunRes.r1 rfl (ResIs.tmpB rfl)
    case hI => first | exact Mem.le.refl _ | assumption
    exact ⟨rfl, rfl⟩
  refine WL.val (Val.not rfl) rfl ?_
  refine WL.nil ?_
  refine WX.thenC ?_
  refine WC.condF rfl ?_
  refine WC.skip ?_
  refine WX.thenC ?_
  refine WC.seq ?_
  refine WC.region ?_
  refine WL.val (Val.moveS rfl) rfl ?_
  refine WL.callP [] rfl rfl (tPlay l _ _ hlv hs.2 (by have := hs.1; omega)) rfl ?_
  rintro _ I1 _ hI1 ⟨A, top, kv, rfl, hkv, rfl, hA, _⟩
  obtain ⟨ka, kc, rfl⟩ := hkv.sl
  have hsz := hA.size_le
  have hit : I64 top.id := by rw [hA.id0]; exact ⟨by decide, by decide⟩
  refine WL.nApp ?_
  refine WL.val (Val.moveT rfl) rfl ?_
  refine WL.val (Val.extractP rfl rfl) rfl ?_
  refine WL.val (Val.extractA rfl rfl) rfl ?_
  refine WL.val (Val.extractB rfl rfl) rfl ?_
  (refine WL.alloc rfl ?_; intro _)
  refine WL.nApp ?_
  refine WL.val (Val.assignP rfl) rfl ?_
  refine WL.stA 6 rfl rfl rfl rfl ?_
  refine WL.val (Val.assignB rfl) rfl ?_
  refine WL.nil ?_
  refine WX.thenC ?_
  refine WC.seq ?_
  refine WC.seq ?_
  refine WC.region ?_
  refine WL.val (Val.moveB rfl) rfl ?_
  refine WL.val (Val.not rfl) rfl ?_
  refine WL.nil ?_
  refine WX.thenC ?_
  refine WC.condF rfl ?_
  refine WC.skip ?_
  refine WX.thenC ?_
  refine WC.seq ?_
  refine WC.region ?_
  refine WL.val (Val.moveP rfl) rfl ?_
  rename_i g6
  refine WL.callR [1, 1, 1, 1, 1] rfl rfl rfl (aOrder A top hA _) rfl ?_
  rintro _ I2 hI2 hord
  obtain ⟨oa, oc, rfl⟩ := hord.sl
  refine WL.val (Val.assignS rfl) rfl ?_
  refine WL.nil ?_
  refine WX.thenC ?_
  refine WC.seq ?_
  refine WC.region ?_
  refine WL.val (Val.ldO 6 rfl rfl rfl) rfl ?_
  refine WL.callP [] rfl rfl (rOrder _ top (Nat.le_refl _) _ _ (by omega) hit (hkv.mono hI2)) rfl ?_
  rintro _ I3 _ hI3 ⟨rfl, hord2⟩
  have hol : top.order.length = top.size := Nd.order_len top
  have hsp := top.size_pos
  have htl : top.order.tail.length = top.size - 1 := by rw [List.length_tail, hol]
  obtain ⟨b, off, cap, _, he, _⟩ := hord2.get 0 (by omega)
  subst he
  have hcap := hord2.cap
  refine WL.nApp ?_
  skip
  refine WL.val (Val.sliceFrom2 (m := 1) rfl rfl (by omega) (by omega)) rfl ?_
  have hwant := LsAt.tail hord2 (by omega) hcap.2
  have hl1 : top.order.length - 1 = top.order.tail.length := by rw [List.length_tail]
  rw [hl1] at hwant ⊢
  generalize (if cap = 1 then off else off + 1 * 1) = off' at hwant ⊢
  replace hord := hord.mono hI3
  refine WL.val (Val.assignS rfl) rfl ?_
  refine WL.nil ?_
  refine WX.thenC ?_
  refine WC.seq ?_
  refine WC.seq ?_
  refine WC.region ?_
  refine WL.val (Val.moveS rfl) rfl ?_
  refine WL.val (Val.len rfl) rfl ?_
  refine WL.val (Val.moveS rfl) rfl ?_
  refine WL.val (Val.len rfl) rfl ?_
  refine WL.val (Val.neq rfl rfl (bne_eq_false_iff_eq.2 (by omega))) rfl ?_
  refine WL.nil ?_
  refine WX.thenC ?_
  refine WC.condF rfl ?_
  refine WC.skip ?_
  refine WX.thenC ?_
  refine WC.seq ?_
  refine WC.seq ?_
  refine WC.region ?_
  refine WL.val (Val.moveS rfl) rfl ?_
  refine WL.val (Val.len rfl) rfl ?_
  refine WL.val (Val.moveI rfl) rfl ?_
  refine WL.nil ?_
  refine WX.thenC ?_
  refine WC.block ?_
  refine WC.loop (fun m ρ' I' L' => ∃ j : Nat, m = top.order.tail.length - j ∧ j ≤ top.order.tail.length ∧ I' = I3 ∧ ρ' 1 = vi id ∧ ρ' 5 = ptr A.b ∧ ρ' 6 = ptr g6 ∧ ρ' 8 = .slice oa top.order.tail.length oc ∧ ρ' 9 = .slice (some ⟨b, off', none⟩) top.order.tail.length (cap - 1) ∧ ρ' 48 = vi top.order.tail.length ∧ ρ' 49 = vi j ∧ L' = F :: A.on [box g6 39 [vi top.id, .bool top.grp, .slice ka top.kids.length kc]])
    top.order.tail.length ⟨0, rfl, by omega, rfl, rfl, rfl, rfl, rfl, rfl, rfl, rfl, rfl⟩ ?_
  rintro m ρ' I9 L' ⟨j, rfl, hj, rfl, r1, r5, r6, r8, r9, r48, r49, rfl⟩
  rw [← upd_self r49, ← upd_self r48, ← upd_self r9, ← upd_self r8, ← upd_self r6, ← upd_self r5, ← upd_self r1]
  clear r49 r48 r9 r8 r6 r5 r1
  by_cases hjn : j < top.order.tail.length
  · obtain ⟨b2, off2, cap2, cs2, he, hR2, hAt2⟩ := hord.get j hjn
    cases he
    obtain ⟨rfl, x64⟩ := hR2
    obtain ⟨b3, off3, cap3, cs3, he, hR3, hAt3⟩ := hwant.get j hjn
    cases he
    obtain ⟨rfl, y64⟩ := hR3
    refine WC.seq ?_
    refine WC.region ?_
    refine WL.val (Val.lss rfl rfl (decide_eq_true (by omega))) rfl ?_
    refine WL.nil ?_
    refine WX.thenC ?_
    refine WC.seq ?_
    refine WC.condT rfl ?_
    refine WC.skip ?_
    refine WX.thenC ?_
    refine WC.seq ?_
    refine WC.block ?_
    refine WC.seq ?_
    refine WC.region ?_
    refine WL.val (Val.moveI rfl) rfl ?_
    refine WL.val (Val.assignI rfl) rfl ?_
    refine WL.nil ?_
    refine WX.thenC ?_
    refine WC.seq ?_
    refine WC.drawK 999 I9 [] rfl (by kernel_rfl) rfl rfl ?_
    refine WA.take 0 rfl (by kernel_rfl) rfl (fun w h => (h.sub [] rfl)) (Val.moveS rfl) rfl ?_
    refine WA.take 1 rfl (by kernel_rfl) rfl (fun w h => (h.sub [] rfl)) (Val.moveI rfl) rfl ?_
    refine WA.take 2 rfl (by kernel_rfl) rfl (fun w h => (h.sub [] rfl)) (Val.indexAddr rfl rfl (by omega) (by omega)) rfl ?_
    refine WA.take 3 rfl (by kernel_rfl) rfl (fun w h => (h.sub [] rfl)) (Val.loadS rfl (Rd.imm (by assumption))) rfl ?_
    refine WA.take 4 rfl (by kernel_rfl) rfl (fun w h => (h.sub [] rfl)) (Val.moveS rfl) rfl ?_
    refine WA.take 5 rfl (by kernel_rfl) rfl (fun w h => (h.sub [] rfl)) (Val.moveI rfl) rfl ?_
    refine WA.take 6 rfl (by kernel_rfl) rfl (fun w h => (h.sub [] rfl)) (Val.indexAddr rfl rfl (by omega) (by omega)) rfl ?_
    refine WA.take 7 rfl (by kernel_rfl) rfl (fun w h => (h.sub [] rfl)) (Val.loadS rfl (Rd.imm (by assumption))) rfl ?_
    refine WA.take 8 rfl (by kernel_rfl) rfl (fun w h => (h.sub [] rfl)) (Val.neq rfl rfl (bne_eq_false_iff_eq.2 (by omega))) rfl ?_
    refine WA.done (by kernel_rfl) ?_
    refine WX.thenC ?_
    refine WC.condF rfl ?_
    refine WC.skip ?_
    refine WX.inNormal ?_
    refine WX.thenC ?_
    refine WC.region ?_
    refine WL.val (Val.add rfl rfl (wrap_i64 (by omega) (by omega))) rfl ?_
    refine WL.val (Val.moveI rfl) rfl ?_
    refine WL.nil ?_
    exact WX.thenK (WK.round (top.order.tail.length - (j + 1)) (by omega) ⟨j + 1, rfl, by omega, rfl, rfl, rfl, rfl, rfl, rfl, rfl, rfl, rfl⟩)
  have hjl : j = top.order.tail.length := by omega
  subst hjl
  refine WC.seq ?_
  refine WC.region ?_
  refine WL.val (Val.lss rfl rfl (decide_eq_false (by omega))) rfl ?_
  refine WL.nil ?_
  refine WX.thenC ?_
  refine WC.seq ?_
  refine WC.condF rfl ?_
  refine WC.exit ?_
  refine WX.thenExit ?_
  refine WX.thenExit ?_
  refine WX.inHit ?_
  refine WX.thenC ?_
  refine WC.seq ?_
  refine WC.seq ?_
  refine WC.region ?_
  refine WL.val (Val.moveI rfl) rfl ?_
  (refine WL.buildSlice (by with_unfolding_all exact rfl) rfl (by with_unfolding_all exact rfl) rfl ?_; intro _)
  refine WL.nApp ?_
  refine WL.val (Val.moveS rfl) rfl ?_
  rename_i g16
  have hks : [id, 0].length + top.order.tail.length = top.order.tail.length + 2 := by simp only [List.length_cons, List.length_nil]; omega
  refine WL.conv (L' := F :: A.on [box g6 39 [vi top.id, .bool top.grp, .slice ka top.kids.length kc], box g16 3 [vi id, vi 0]]) (fun w h => h) ?_
  refine WL.boxSl (xs := [vi id, vi 0]) (n := 2) (sz := 1) 7 rfl rfl (by decide) ?_
  refine WL.appL (R := Ls.Int.rep) (l := [id, 0]) (m := top.order.tail) 7 rfl rfl ⟨[[vi id], [vi 0]], rfl, ⟨rfl, hid⟩, ⟨rfl, i64_0⟩, trivial⟩ rfl hord (fun x cs h => by rw [h.1]; rfl) (by rfl) (by decide) (by omega) (by unfold maxLen; omega) rfl fun aa cc p' hp' => ?_
  refine WL.nSet ?_
  refine WL.freezeL (ρ := _) (L' := F :: A.on [box g6 39 [vi top.id, .bool top.grp, .slice ka top.kids.length kc]]) 7 rfl hp' fun I4 hI4 hkl => ?_
  refine WL.val (Val.len rfl) rfl ?_
  refine WL.val (Val.moveI rfl) rfl ?_
  refine WL.nil ?_
  refine WX.thenC ?_
  refine WC.block ?_
  have hkv4 := hkv.mono (hI2.trans (hI3.trans hI4))
  have hJ4 := hI1.trans (hI2.trans (hI3.trans hI4))
  have hkl0 : ([id, 0] ++ top.order.tail).length = top.order.tail.length + 2 := by rw [List.length_append, hks]
  have hk64 : ∀ x ∈ [id, 0] ++ top.order.tail, I64 x := fun x hx => by
    rcases List.mem_append.1 hx with hx | hx
    · simp only [List.mem_cons, List.not_mem_nil, or_false] at hx
      rcases hx with rfl | rfl
      · exact hid
      · exact i64_0
    · exact hA.i64 x (List.mem_of_mem_tail hx)
  generalize [id, 0] ++ top.order.tail = ks at *
  clear hord hwant hord2 hp'
  refine WC.loop (fun m ρ' I' L' => ∃ j : Nat, m = ks.length - j ∧ j ≤ ks.length ∧ I4.le I' ∧ ρ' 5 = ptr A.b ∧ ρ' 6 = ptr g6 ∧ ρ' 65 = .slice aa ks.length cc ∧ ρ' 66 = vi ks.length ∧ ρ' 67 = vi j ∧ L' = F :: A.on [box g6 39 [vi top.id, .bool top.grp, .slice ka top.kids.length kc]])
    ks.length ⟨0, rfl, by omega, Mem.le.refl _, rfl, rfl, rfl, rfl, rfl, rfl⟩ ?_
  rintro m ρ' I5 L' ⟨j, rfl, hj, hI5, r5, r6, r65, r66, r67, rfl⟩
  rw [← upd_self r67, ← upd_self r66, ← upd_self r65, ← upd_self r6, ← upd_self r5]
  clear r67 r66 r65 r6 r5
  by_cases hjn : j < ks.length
  case neg =>
    have hjl : j = ks.length := by omega
    subst hjl
    refine WC.seq ?_
    refine WC.region ?_
    refine WL.val (Val.lss rfl rfl (decide_eq_false (by omega))) rfl ?_
    refine WL.nil ?_
    refine WX.thenC ?_
    refine WC.seq ?_
    refine WC.condF rfl ?_
    refine WC.exit ?_
    refine WX.thenExit ?_
    refine WX.thenExit ?_
    refine WX.inHit ?_
    refine WX.thenC ?_
    refine WC.seq ?_
    refine WC.region ?_
    refine WL.callP [] rfl rfl (tAwake _) rfl ?_
    rintro _ I6 _ hI6 ⟨rfl, rfl⟩
    refine WL.nApp ?_
    have hJ := hJ4.trans (hI5.trans hI6)
    refine WL.val (Val.assignB rfl) rfl ?_
    refine WL.nil ?_
    refine WX.thenC ?_
    refine WC.ret ?_
    apply WX.doneP (ks := [])
    case hres => exact RunRes.r1 rfl (ResIs.tmpB rfl)
    case hI => first | exact Mem.le.refl _ | assumption
    exact ⟨rfl, rfl⟩
  obtain ⟨b2, off2, cap2, cs2, he, hR2, hAt2⟩ := (hkl.mono hI5).get j hjn
  cases he
  obtain ⟨rfl, _⟩ := hR2
  have hx64 := hk64 _ (List.getElem_mem hjn)
  generalize ks[j] = x at *
  have hkv5 := hkv4.mono hI5
  refine WC.seq ?_
  refine WC.region ?_
  refine WL.val (Val.lss rfl rfl (decide_eq_true (by omega))) rfl ?_
  refine WL.nil ?_
  refine WX.thenC ?_
  refine WC.seq ?_
  refine WC.condT rfl ?_
  refine WC.skip ?_
  refine WX.thenC ?_
  refine WC.seq ?_
  refine WC.block ?_
  refine WC.seq ?_
  refine WC.region ?_
  refine WL.val (Val.indexAddr rfl rfl (by omega) (by omega)) rfl ?_
  refine WL.val (Val.loadS rfl (Rd.imm (by assumption))) rfl ?_
  refine WL.val (Val.assignI rfl) rfl ?_
  refine WL.nil ?_
  refine WX.thenC ?_
  refine WC.seq ?_
  refine WC.region ?_
  refine WL.val (Val.ldO 6 rfl rfl rfl) rfl ?_
  refine WL.val (Val.moveI rfl) rfl ?_
  refine WL.callS rfl rfl (rFind x _ top (Nat.le_refl _) _ _ (by omega) hit hkv5) rfl ?_
  intro v hv
  obtain ⟨kx, rfl, hxi, hkx⟩ := hv.uni
  obtain ⟨xa, xc, rfl⟩ := hkx.sl
  refine WL.val (Val.moveT rfl) rfl ?_
  refine WL.val (Val.extractA rfl rfl) rfl ?_
  refine WL.val (Val.extractB rfl rfl) rfl ?_
  (refine WL.alloc rfl ?_; intro _)
  refine WL.nApp ?_
  refine WL.stA 7 rfl rfl rfl rfl ?_
  refine WL.val (Val.assignB rfl) rfl ?_
  refine WL.nil ?_
  refine WX.thenC ?_
  refine WC.seq ?_
  refine WC.region ?_
  refine WL.val (Val.ldO 6 rfl rfl rfl) rfl ?_
  refine WL.val (Val.moveI rfl) rfl ?_
  rename_i g13
  refine WL.callS rfl rfl (rWhere x _ top (Nat.le_refl _) _ _ (by omega) hit hkv5) rfl ?_
  intro v hv
  obtain rfl := hv.eq
  have hwv : whrV (Nd.whr x top) = .tuple #[vi ((Nd.whr x top).getD (0, 0)).1, vi ((Nd.whr x top).getD (0, 0)).2, .bool (Nd.whr x top).isSome] := by cases Nd.whr x top <;> rfl
  rw [hwv]
  refine WL.val (Val.moveT rfl) rfl ?_
  refine WL.val (Val.extractI rfl rfl) rfl ?_
  refine WL.val (Val.extractI rfl rfl) rfl ?_
  refine WL.val (Val.extractB rfl rfl) rfl ?_
  refine WL.val (Val.assignI rfl) rfl ?_
  refine WL.val (Val.assignI rfl) rfl ?_
  refine WL.val (Val.assignB rfl) rfl ?_
  refine WL.nil ?_
  refine WX.thenC ?_
  refine WC.seq ?_
  refine WC.region ?_
  refine WL.val (Val.moveP rfl) rfl ?_
  refine WL.val (Val.moveI rfl) rfl ?_
  refine WL.callK [1, 1, 1, 1, 1] rfl rfl rfl (aWhere A top hA x _) rfl ?_
  rintro _ rfl
  rw [hwv]
  refine WL.val (Val.moveT rfl) rfl ?_
  refine WL.val (Val.extractI rfl rfl) rfl ?_
  refine WL.val (Val.extractI rfl rfl) rfl ?_
  refine WL.val (Val.extractB rfl rfl) rfl ?_
  refine WL.val (Val.assignI rfl) rfl ?_
  refine WL.val (Val.assignI rfl) rfl ?_
  refine WL.val (Val.assignB rfl) rfl ?_
  refine WL.nil ?_
  refine WX.thenC ?_
  refine WC.seq ?_
  refine WC.region ?_
  refine WL.val (Val.moveP rfl) rfl ?_
  refine WL.val (Val.moveI rfl) rfl ?_
  refine WL.callR [1, 1, 1, 1, 1] rfl rfl rfl (aNode A top hA x _) rfl ?_
  rintro _ I7 hI7 ⟨_, rfl, kn, rfl, hkn, hin⟩
  obtain ⟨na, nc, rfl⟩ := hkn.sl
  have hxs := hA.fsize x
  have hkx7 := hkx.mono hI7
  have hkv7 := hkv5.mono hI7
  refine WL.val (Val.moveT rfl) rfl ?_
  refine WL.val (Val.extractA rfl rfl) rfl ?_
  refine WL.val (Val.extractB rfl rfl) rfl ?_
  (refine WL.alloc rfl ?_; intro _)
  refine WL.nApp ?_
  refine WL.stA 8 rfl rfl rfl rfl ?_
  refine WL.val (Val.assignB rfl) rfl ?_
  refine WL.nil ?_
  refine WX.thenC ?_
  refine WC.seq ?_
  refine WC.seq ?_
  rename_i g21
  refine WC.cutP (fun ρ' I' L' => I' = I7 ∧ ρ' 143 = .bool false ∧ ρ' 5 = ptr A.b ∧ ρ' 6 = ptr g6 ∧ ρ' 12 = vi x ∧ ρ' 13 = ptr g13 ∧ ρ' 14 = .bool (Nd.find x top).isSome ∧ ρ' 21 = ptr g21 ∧ ρ' 65 = .slice (some ⟨b2, off2, none⟩) ks.length cc ∧ ρ' 66 = vi ks.length ∧ ρ' 67 = vi j ∧ L' = F :: A.on ([box g6 39 [vi top.id, .bool top.grp, .slice ka top.kids.length kc]] ++ [box g13 39 [vi ((Nd.find x top).getD Nd.zero).id, .bool ((Nd.find x top).getD Nd.zero).grp, .slice xa ((Nd.find x top).getD Nd.zero).kids.length xc], box g21 29 [vi ((Nd.find x top).getD Nd.zero).id, .bool ((Nd.find x top).getD Nd.zero).grp, .slice na ((Nd.find x top).getD Nd.zero).kids.length nc]])) ?_ ?_
  · generalize hfr : Nd.find x top = r at *
    generalize hwr : Nd.whr x top = wr at *
    cases wr with
    | none =>
      cases r with
      | none =>
        refine WC.drawK 999 I7 [6, 6, 6] rfl (by kernel_rfl) rfl rfl ?_
        refine WA.take 0 rfl (by kernel_rfl) rfl (fun w h => (h.sub [6, 6, 6] rfl)) (Val.moveB rfl) rfl ?_
        refine WA.take 1 rfl (by kernel_rfl) rfl (fun w h => (h.sub [6, 6, 6] rfl)) (Val.moveB rfl) rfl ?_
        refine WA.take 2 rfl (by kernel_rfl) rfl (fun w h => (h.sub [6, 6, 6] rfl)) (Val.neqB rfl rfl) rfl ?_
        refine WA.take 3 rfl (by kernel_rfl) rfl (fun w h => (h.sub [6, 6, 6] rfl)) (Val.moveB rfl) rfl ?_
        refine WA.takeGT 4 rfl (by kernel_rfl) rfl (fun w h => (h.sub [6, 6, 6] rfl)) rfl rfl (Val.moveB rfl) rfl ?_
        refine WA.takeGT 5 rfl (by kernel_rfl) rfl (fun w h => (h.sub [6, 6, 6] rfl)) rfl rfl (Val.moveB rfl) rfl ?_
        refine WA.takeGF 6 rfl (by kernel_rfl) rfl (fun w h => (h.sub [6, 6, 6] rfl)) rfl rfl rfl rfl ?_
        refine WA.takeGF 7 rfl (by kernel_rfl) rfl (fun w h => (h.sub [6, 6, 6] rfl)) rfl rfl rfl rfl ?_
        refine WA.takeGF 8 rfl (by kernel_rfl) rfl (fun w h => (h.sub [6, 6, 6] rfl)) rfl rfl rfl rfl ?_
        refine WA.takeGF 9 rfl (by kernel_rfl) rfl (fun w h => (h.sub [6, 6, 6] rfl)) rfl rfl rfl rfl ?_
        refine WA.takeGU 10 rfl (by kernel_rfl) rfl (fun w h => (h.sub [6, 6, 6] rfl)) rfl rfl rfl ?_
        refine WA.takeGU 11 rfl (by kernel_rfl) rfl (fun w h => (h.sub [6, 6, 6] rfl)) rfl rfl rfl ?_
        refine WA.takeGU 12 rfl (by kernel_rfl) rfl (fun w h => (h.sub [6, 6, 6] rfl)) rfl rfl rfl ?_
        refine WA.takeGF 13 rfl (by kernel_rfl) rfl (fun w h => (h.sub [6, 6, 6] rfl)) rfl rfl rfl rfl ?_
        refine WA.takeGT 14 rfl (by kernel_rfl) rfl (fun w h => (h.sub [6, 6, 6] rfl)) rfl rfl (Val.pickBF rfl rfl) rfl ?_
        refine WA.take 15 rfl (by kernel_rfl) rfl (fun w h => (h.sub [6, 6, 6] rfl)) (Val.pickBF rfl rfl) rfl ?_
        refine WA.take 16 rfl (by kernel_rfl) rfl (fun w h => (h.sub [6, 6, 6] rfl)) (Val.moveB rfl) rfl ?_
        refine WA.takeGT 17 rfl (by kernel_rfl) rfl (fun w h => (h.sub [6, 6, 6] rfl)) rfl rfl (Val.moveB rfl) rfl ?_
        refine WA.takeGT 18 rfl (by kernel_rfl) rfl (fun w h => (h.sub [6, 6, 6] rfl)) rfl rfl (Val.moveB rfl) rfl ?_
        refine WA.takeGT 19 rfl (by kernel_rfl) rfl (fun w h => (h.sub [6, 6, 6] rfl)) rfl rfl (Val.neqB rfl rfl) rfl ?_
        refine WA.take 20 rfl (by kernel_rfl) rfl (fun w h => (h.sub [6, 6, 6] rfl)) (Val.pickBF rfl rfl) rfl ?_
        refine WA.take 21 rfl (by kernel_rfl) rfl (fun w h => (h.sub [6, 6, 6] rfl)) (Val.moveB rfl) rfl ?_
        refine WA.takeGT 22 rfl (by kernel_rfl) rfl (fun w h => (h.sub [6, 6, 6] rfl)) rfl rfl (Val.ldO 2 rfl rfl rfl) rfl ?_
        refine WA.takeGT 23 rfl (by kernel_rfl) rfl (fun w h => (h.sub [6, 6, 6] rfl)) rfl rfl (Val.ldO 1 rfl rfl rfl) rfl ?_
        refine WA.eff1 (i := 24) (by kernel_rfl) rfl rfl ?_
        refine WL.gT rfl rfl ?_
        refine WL.callE rfl rfl (rSame _ _ (Nat.le_refl _) _ _ _ _ (by omega) hin hkn hxi hkx7) rfl (fun h => ?_) (fun h => absurd rfl h)
        refine WL.nil ?_
        refine WK.anyStep (fun w h => (h.sub [6, 6, 6] rfl)) ?_
        refine WA.takeGT 25 rfl (by kernel_rfl) rfl (fun w h => (h.sub [6, 6, 6] rfl)) rfl rfl (Val.not rfl) rfl ?_
        refine WA.take 26 rfl (by kernel_rfl) rfl (fun w h => (h.sub [6, 6, 6] rfl)) (Val.pickBF rfl rfl) rfl ?_
        refine WA.take 27 rfl (by kernel_rfl) rfl (fun w h => (h.sub [6, 6, 6] rfl)) (Val.moveB rfl) rfl ?_
        refine WA.takeGT 28 rfl (by kernel_rfl) rfl (fun w h => (h.sub [6, 6, 6] rfl)) rfl rfl (Val.moveP rfl) rfl ?_
        refine WA.takeGT 29 rfl (by kernel_rfl) rfl (fun w h => (h.sub [6, 6, 6] rfl)) rfl rfl (Val.moveI rfl) rfl ?_
        refine WA.takeGT 31 rfl (by kernel_rfl) rfl (fun w h => (h.sub [6, 6, 6] rfl)) rfl rfl (Val.ldO 0 rfl rfl rfl) rfl ?_
        refine WA.takeGT 32 rfl (by kernel_rfl) rfl (fun w h => (h.sub [6, 6, 6] rfl)) rfl rfl (Val.moveI rfl) rfl ?_
        refine WA.eff1 (i := 30) (by kernel_rfl) rfl rfl ?_
        refine WL.gT rfl rfl ?_
        refine WL.callK [1, 1, 1, 1, 1] rfl rfl rfl (aDepth A top hA x _) rfl ?_
        rintro _ rfl
        refine WL.nil ?_
        refine WK.anyStep (fun w h => (h.sub [6, 6, 6] rfl)) ?_
        refine WA.eff1 (i := 33) (by kernel_rfl) rfl rfl ?_
        refine WL.gT rfl rfl ?_
        refine WL.callS rfl rfl (rDepth x _ top (Nat.le_refl _) _ _ (by omega) hit hkv7) rfl ?_
        rintro _ rfl
        refine WL.nil ?_
        refine WK.anyStep (fun w h => (h.sub [6, 6, 6] rfl)) ?_
        refine WA.takeGT 34 rfl (by kernel_rfl) rfl (fun w h => (h.sub [6, 6, 6] rfl)) rfl rfl (Val.neq rfl rfl (bne_eq_false_iff_eq.2 (by omega))) rfl ?_
        refine WA.take 35 rfl (by kernel_rfl) rfl (fun w h => (h.sub [6, 6, 6] rfl)) (Val.pickBF rfl rfl) rfl ?_
        refine WA.take 36 rfl (by kernel_rfl) rfl (fun w h => (h.sub [6, 6, 6] rfl)) (Val.moveB rfl) rfl ?_
        refine WA.takeGT 37 rfl (by kernel_rfl) rfl (fun w h => (h.sub [6, 6, 6] rfl)) rfl rfl (Val.moveP rfl) rfl ?_
        refine WA.takeGT 38 rfl (by kernel_rfl) rfl (fun w h => (h.sub [6, 6, 6] rfl)) rfl rfl (Val.moveI rfl) rfl ?_
        refine WA.takeGT 40 rfl (by kernel_rfl) rfl (fun w h => (h.sub [6, 6, 6] rfl)) rfl rfl (Val.moveB rfl) rfl ?_
        refine WA.eff1 (i := 39) (by kernel_rfl) rfl rfl ?_
        refine WL.gT rfl rfl ?_
        refine WL.callK [1, 1, 1, 1, 1] rfl rfl rfl (aIsGroup A top hA x _) rfl ?_
        rintro _ rfl
        rw [hfr]
        refine WL.nil ?_
        refine WK.anyStep (fun w h => (h.sub [6, 6, 6] rfl)) ?_
        refine WA.takeGT 41 rfl (by kernel_rfl) rfl (fun w h => (h.sub [6, 6, 6] rfl)) rfl rfl (Val.moveB rfl) rfl ?_
        refine WA.takeGF 42 rfl (by kernel_rfl) rfl (fun w h => (h.sub [6, 6, 6] rfl)) rfl rfl rfl rfl ?_
        refine WA.takeGF 43 rfl (by kernel_rfl) rfl (fun w h => (h.sub [6, 6, 6] rfl)) rfl rfl rfl rfl ?_
        refine WA.takeGT 44 rfl (by kernel_rfl) rfl (fun w h => (h.sub [6, 6, 6] rfl)) rfl rfl (Val.pickBF rfl rfl) rfl ?_
        refine WA.takeGT 45 rfl (by kernel_rfl) rfl (fun w h => (h.sub [6, 6, 6] rfl)) rfl rfl (Val.neqB rfl rfl) rfl ?_
        refine WA.take 46 rfl (by kernel_rfl) rfl (fun w h => (h.sub [6, 6, 6] rfl)) (Val.pickBF rfl rfl) rfl ?_
        refine WA.done (by kernel_rfl) ?_
        exact WX.thenK (WK.meet ⟨rfl, rfl, rfl, rfl, rfl, rfl, rfl, rfl, rfl, rfl, rfl, rfl⟩)
      | some m =>
        refine WC.drawK 999 I7 [6, 6, 6] rfl (by kernel_rfl) rfl rfl ?_
        refine WA.take 0 rfl (by kernel_rfl) rfl (fun w h => (h.sub [6, 6, 6] rfl)) (Val.moveB rfl) rfl ?_
        refine WA.take 1 rfl (by kernel_rfl) rfl (fun w h => (h.sub [6, 6, 6] rfl)) (Val.moveB rfl) rfl ?_
        refine WA.take 2 rfl (by kernel_rfl) rfl (fun w h => (h.sub [6, 6, 6] rfl)) (Val.neqB rfl rfl) rfl ?_
        refine WA.take 3 rfl (by kernel_rfl) rfl (fun w h => (h.sub [6, 6, 6] rfl)) (Val.moveB rfl) rfl ?_
        refine WA.takeGT 4 rfl (by kernel_rfl) rfl (fun w h => (h.sub [6, 6, 6] rfl)) rfl rfl (Val.moveB rfl) rfl ?_
        refine WA.takeGT 5 rfl (by kernel_rfl) rfl (fun w h => (h.sub [6, 6, 6] rfl)) rfl rfl (Val.moveB rfl) rfl ?_
        refine WA.takeGF 6 rfl (by kernel_rfl) rfl (fun w h => (h.sub [6, 6, 6] rfl)) rfl rfl rfl rfl ?_
        refine WA.takeGF 7 rfl (by kernel_rfl) rfl (fun w h => (h.sub [6, 6, 6] rfl)) rfl rfl rfl rfl ?_
        refine WA.takeGF 8 rfl (by kernel_rfl) rfl (fun w h => (h.sub [6, 6, 6] rfl)) rfl rfl rfl rfl ?_
        refine WA.takeGF 9 rfl (by kernel_rfl) rfl (fun w h => (h.sub [6, 6, 6] rfl)) rfl rfl rfl rfl ?_
        refine WA.takeGU 10 rfl (by kernel_rfl) rfl (fun w h => (h.sub [6, 6, 6] rfl)) rfl rfl rfl ?_
        refine WA.takeGU 11 rfl (by kernel_rfl) rfl (fun w h => (h.sub [6, 6, 6] rfl)) rfl rfl rfl ?_
        refine WA.takeGU 12 rfl (by kernel_rfl) rfl (fun w h => (h.sub [6, 6, 6] rfl)) rfl rfl rfl ?_
        refine WA.takeGF 13 rfl (by kernel_rfl) rfl (fun w h => (h.sub [6, 6, 6] rfl)) rfl rfl rfl rfl ?_
        refine WA.takeGT 14 rfl (by kernel_rfl) rfl (fun w h => (h.sub [6, 6, 6] rfl)) rfl rfl (Val.pickBF rfl rfl) rfl ?_
        refine WA.take 15 rfl (by kernel_rfl) rfl (fun w h => (h.sub [6, 6, 6] rfl)) (Val.pickBF rfl rfl) rfl ?_
        refine WA.take 16 rfl (by kernel_rfl) rfl (fun w h => (h.sub [6, 6, 6] rfl)) (Val.moveB rfl) rfl ?_
        refine WA.takeGT 17 rfl (by kernel_rfl) rfl (fun w h => (h.sub [6, 6, 6] rfl)) rfl rfl (Val.moveB rfl) rfl ?_
        refine WA.takeGT 18 rfl (by kernel_rfl) rfl (fun w h => (h.sub [6, 6, 6] rfl)) rfl rfl (Val.moveB rfl) rfl ?_
        refine WA.takeGT 19 rfl (by kernel_rfl) rfl (fun w h => (h.sub [6, 6, 6] rfl)) rfl rfl (Val.neqB rfl rfl) rfl ?_
        refine WA.take 20 rfl (by kernel_rfl) rfl (fun w h => (h.sub [6, 6, 6] rfl)) (Val.pickBF rfl rfl) rfl ?_
        refine WA.take 21 rfl (by kernel_rfl) rfl (fun w h => (h.sub [6, 6, 6] rfl)) (Val.moveB rfl) rfl ?_
        refine WA.takeGT 22 rfl (by kernel_rfl) rfl (fun w h => (h.sub [6, 6, 6] rfl)) rfl rfl (Val.ldO 2 rfl rfl rfl) rfl ?_
        refine WA.takeGT 23 rfl (by kernel_rfl) rfl (fun w h => (h.sub [6, 6, 6] rfl)) rfl rfl (Val.ldO 1 rfl rfl rfl) rfl ?_
        refine WA.eff1 (i := 24) (by kernel_rfl) rfl rfl ?_
        refine WL.gT rfl rfl ?_
        refine WL.callE rfl rfl (rSame _ _ (Nat.le_refl _) _ _ _ _ (by omega) hin hkn hxi hkx7) rfl (fun h => ?_) (fun h => absurd rfl h)
        refine WL.nil ?_
        refine WK.anyStep (fun w h => (h.sub [6, 6, 6] rfl)) ?_
        refine WA.takeGT 25 rfl (by kernel_rfl) rfl (fun w h => (h.sub [6, 6, 6] rfl)) rfl rfl (Val.not rfl) rfl ?_
        refine WA.take 26 rfl (by kernel_rfl) rfl (fun w h => (h.sub [6, 6, 6] rfl)) (Val.pickBF rfl rfl) rfl ?_
        refine WA.take 27 rfl (by kernel_rfl) rfl (fun w h => (h.sub [6, 6, 6] rfl)) (Val.moveB rfl) rfl ?_
        refine WA.takeGT 28 rfl (by kernel_rfl) rfl (fun w h => (h.sub [6, 6, 6] rfl)) rfl rfl (Val.moveP rfl) rfl ?_
        refine WA.takeGT 29 rfl (by kernel_rfl) rfl (fun w h => (h.sub [6, 6, 6] rfl)) rfl rfl (Val.moveI rfl) rfl ?_
        refine WA.takeGT 31 rfl (by kernel_rfl) rfl (fun w h => (h.sub [6, 6, 6] rfl)) rfl rfl (Val.ldO 0 rfl rfl rfl) rfl ?_
        refine WA.takeGT 32 rfl (by kernel_rfl) rfl (fun w h => (h.sub [6, 6, 6] rfl)) rfl rfl (Val.moveI rfl) rfl ?_
        refine WA.eff1 (i := 30) (by kernel_rfl) rfl rfl ?_
        refine WL.gT rfl rfl ?_
        refine WL.callK [1, 1, 1, 1, 1] rfl rfl rfl (aDepth A top hA x _) rfl ?_
        rintro _ rfl
        refine WL.nil ?_
        refine WK.anyStep (fun w h => (h.sub [6, 6, 6] rfl)) ?_
        refine WA.eff1 (i := 33) (by kernel_rfl) rfl rfl ?_
        refine WL.gT rfl rfl ?_
        refine WL.callS rfl rfl (rDepth x _ top (Nat.le_refl _) _ _ (by omega) hit hkv7) rfl ?_
        rintro _ rfl
        refine WL.nil ?_
        refine WK.anyStep (fun w h => (h.sub [6, 6, 6] rfl)) ?_
        refine WA.takeGT 34 rfl (by kernel_rfl) rfl (fun w h => (h.sub [6, 6, 6] rfl)) rfl rfl (Val.neq rfl rfl (bne_eq_false_iff_eq.2 (by omega))) rfl ?_
        refine WA.take 35 rfl (by kernel_rfl) rfl (fun w h => (h.sub [6, 6, 6] rfl)) (Val.pickBF rfl rfl) rfl ?_
        refine WA.take 36 rfl (by kernel_rfl) rfl (fun w h => (h.sub [6, 6, 6] rfl)) (Val.moveB rfl) rfl ?_
        refine WA.takeGT 37 rfl (by kernel_rfl) rfl (fun w h => (h.sub [6, 6, 6] rfl)) rfl rfl (Val.moveP rfl) rfl ?_
        refine WA.takeGT 38 rfl (by kernel_rfl) rfl (fun w h => (h.sub [6, 6, 6] rfl)) rfl rfl (Val.moveI rfl) rfl ?_
        refine WA.takeGT 40 rfl (by kernel_rfl) rfl (fun w h => (h.sub [6, 6, 6] rfl)) rfl rfl (Val.moveB rfl) rfl ?_
        refine WA.eff1 (i := 39) (by kernel_rfl) rfl rfl ?_
        refine WL.gT rfl rfl ?_
        refine WL.callK [1, 1, 1, 1, 1] rfl rfl rfl (aIsGroup A top hA x _) rfl ?_
        rintro _ rfl
        rw [hfr]
        refine WL.nil ?_
        refine WK.anyStep (fun w h => (h.sub [6, 6, 6] rfl)) ?_
        refine WA.takeGT 41 rfl (by kernel_rfl) rfl (fun w h => (h.sub [6, 6, 6] rfl)) rfl rfl (Val.moveB rfl) rfl ?_
        refine WA.takeGT 42 rfl (by kernel_rfl) rfl (fun w h => (h.sub [6, 6, 6] rfl)) rfl rfl (Val.fldAddr rfl) rfl ?_
        refine WA.takeGT 43 rfl (by kernel_rfl) rfl (fun w h => (h.sub [6, 6, 6] rfl)) rfl rfl (Val.loadS rfl (Rd.own1 1 rfl rfl)) rfl ?_
        refine WA.takeGT 44 rfl (by kernel_rfl) rfl (fun w h => (h.sub [6, 6, 6] rfl)) rfl rfl (Val.pickBT rfl rfl) rfl ?_
        first | refine WA.take 45 rfl (by kernel_rfl) rfl (fun w h => (h.sub [6, 6, 6] rfl)) (Val.to (show Value.bool (m.grp != m.grp) = .bool false by rw [bne_self_eq_false]) (Val.neqB rfl rfl)) rfl ?_ | refine WA.takeGT 45 rfl (by kernel_rfl) rfl (fun w h => (h.sub [6, 6, 6] rfl)) rfl rfl (Val.to (show Value.bool (m.grp != m.grp) = .bool false by rw [bne_self_eq_false]) (Val.neqB rfl rfl)) rfl ?_
        refine WA.take 46 rfl (by kernel_rfl) rfl (fun w h => (h.sub [6, 6, 6] rfl)) (Val.pickBF rfl rfl) rfl ?_
        refine WA.done (by kernel_rfl) ?_
        exact WX.thenK (WK.meet ⟨rfl, rfl, rfl, rfl, rfl, rfl, rfl, rfl, rfl, rfl, rfl, rfl⟩)
    | some pk =>
      obtain ⟨wp, wk⟩ := pk
      cases r with
      | none =>
        refine WC.drawK 999 I7 [6, 6, 6] rfl (by kernel_rfl) rfl rfl ?_
        refine WA.take 0 rfl (by kernel_rfl) rfl (fun w h => (h.sub [6, 6, 6] rfl)) (Val.moveB rfl) rfl ?_
        refine WA.take 1 rfl (by kernel_rfl) rfl (fun w h => (h.sub [6, 6, 6] rfl)) (Val.moveB rfl) rfl ?_
        refine WA.take 2 rfl (by kernel_rfl) rfl (fun w h => (h.sub [6, 6, 6] rfl)) (Val.neqB rfl rfl) rfl ?_
        refine WA.take 3 rfl (by kernel_rfl) rfl (fun w h => (h.sub [6, 6, 6] rfl)) (Val.moveB rfl) rfl ?_
        refine WA.takeGT 4 rfl (by kernel_rfl) rfl (fun w h => (h.sub [6, 6, 6] rfl)) rfl rfl (Val.moveB rfl) rfl ?_
        refine WA.takeGT 5 rfl (by kernel_rfl) rfl (fun w h => (h.sub [6, 6, 6] rfl)) rfl rfl (Val.moveB rfl) rfl ?_
        refine WA.takeGT 6 rfl (by kernel_rfl) rfl (fun w h => (h.sub [6, 6, 6] rfl)) rfl rfl (Val.moveI rfl) rfl ?_
        refine WA.takeGT 7 rfl (by kernel_rfl) rfl (fun w h => (h.sub [6, 6, 6] rfl)) rfl rfl (Val.moveI rfl) rfl ?_
        refine WA.takeGT 8 rfl (by kernel_rfl) rfl (fun w h => (h.sub [6, 6, 6] rfl)) rfl rfl (Val.neq rfl rfl (bne_eq_false_iff_eq.2 (by omega))) rfl ?_
        refine WA.takeGT 9 rfl (by kernel_rfl) rfl (fun w h => (h.sub [6, 6, 6] rfl)) rfl rfl (Val.moveB rfl) rfl ?_
        refine WA.takeGT 10 rfl (by kernel_rfl) rfl (fun w h => (h.sub [6, 6, 6] rfl)) rfl rfl (Val.moveI rfl) rfl ?_
        refine WA.takeGT 11 rfl (by kernel_rfl) rfl (fun w h => (h.sub [6, 6, 6] rfl)) rfl rfl (Val.moveI rfl) rfl ?_
        refine WA.takeGT 12 rfl (by kernel_rfl) rfl (fun w h => (h.sub [6, 6, 6] rfl)) rfl rfl (Val.neq rfl rfl (bne_eq_false_iff_eq.2 (by omega))) rfl ?_
        refine WA.takeGT 13 rfl (by kernel_rfl) rfl (fun w h => (h.sub [6, 6, 6] rfl)) rfl rfl (Val.pickBF rfl rfl) rfl ?_
        refine WA.takeGT 14 rfl (by kernel_rfl) rfl (fun w h => (h.sub [6, 6, 6] rfl)) rfl rfl (Val.pickBT rfl rfl) rfl ?_
        refine WA.take 15 rfl (by kernel_rfl) rfl (fun w h => (h.sub [6, 6, 6] rfl)) (Val.pickBF rfl rfl) rfl ?_
        refine WA.take 16 rfl (by kernel_rfl) rfl (fun w h => (h.sub [6, 6, 6] rfl)) (Val.moveB rfl) rfl ?_
        refine WA.takeGT 17 rfl (by kernel_rfl) rfl (fun w h => (h.sub [6, 6, 6] rfl)) rfl rfl (Val.moveB rfl) rfl ?_
        refine WA.takeGT 18 rfl (by kernel_rfl) rfl (fun w h => (h.sub [6, 6, 6] rfl)) rfl rfl (Val.moveB rfl) rfl ?_
        refine WA.takeGT 19 rfl (by kernel_rfl) rfl (fun w h => (h.sub [6, 6, 6] rfl)) rfl rfl (Val.neqB rfl rfl) rfl ?_
        refine WA.take 20 rfl (by kernel_rfl) rfl (fun w h => (h.sub [6, 6, 6] rfl)) (Val.pickBF rfl rfl) rfl ?_
        refine WA.take 21 rfl (by kernel_rfl) rfl (fun w h => (h.sub [6, 6, 6] rfl)) (Val.moveB rfl) rfl ?_
        refine WA.takeGT 22 rfl (by kernel_rfl) rfl (fun w h => (h.sub [6, 6, 6] rfl)) rfl rfl (Val.ldO 2 rfl rfl rfl) rfl ?_
        refine WA.takeGT 23 rfl (by kernel_rfl) rfl (fun w h => (h.sub [6, 6, 6] rfl)) rfl rfl (Val.ldO 1 rfl rfl rfl) rfl ?_
        refine WA.eff1 (i := 24) (by kernel_rfl) rfl rfl ?_
        refine WL.gT rfl rfl ?_
        refine WL.callE rfl rfl (rSame _ _ (Nat.le_refl _) _ _ _ _ (by omega) hin hkn hxi hkx7) rfl (fun h => ?_) (fun h => absurd rfl h)
        refine WL.nil ?_
        refine WK.anyStep (fun w h => (h.sub [6, 6, 6] rfl)) ?_
        refine WA.takeGT 25 rfl (by kernel_rfl) rfl (fun w h => (h.sub [6, 6, 6] rfl)) rfl rfl (Val.not rfl) rfl ?_
        refine WA.take 26 rfl (by kernel_rfl) rfl (fun w h => (h.sub [6, 6, 6] rfl)) (Val.pickBF rfl rfl) rfl ?_
        refine WA.take 27 rfl (by kernel_rfl) rfl (fun w h => (h.sub [6, 6, 6] rfl)) (Val.moveB rfl) rfl ?_
        refine WA.takeGT 28 rfl (by kernel_rfl) rfl (fun w h => (h.sub [6, 6, 6] rfl)) rfl rfl (Val.moveP rfl) rfl ?_
        refine WA.takeGT 29 rfl (by kernel_rfl) rfl (fun w h => (h.sub [6, 6, 6] rfl)) rfl rfl (Val.moveI rfl) rfl ?_
        refine WA.takeGT 31 rfl (by kernel_rfl) rfl (fun w h => (h.sub [6, 6, 6] rfl)) rfl rfl (Val.ldO 0 rfl rfl rfl) rfl ?_
        refine WA.takeGT 32 rfl (by kernel_rfl) rfl (fun w h => (h.sub [6, 6, 6] rfl)) rfl rfl (Val.moveI rfl) rfl ?_
        refine WA.eff1 (i := 30) (by kernel_rfl) rfl rfl ?_
        refine WL.gT rfl rfl ?_
        refine WL.callK [1, 1, 1, 1, 1] rfl rfl rfl (aDepth A top hA x _) rfl ?_
        rintro _ rfl
        refine WL.nil ?_
        refine WK.anyStep (fun w h => (h.sub [6, 6, 6] rfl)) ?_
        refine WA.eff1 (i := 33) (by kernel_rfl) rfl rfl ?_
        refine WL.gT rfl rfl ?_
        refine WL.callS rfl rfl (rDepth x _ top (Nat.le_refl _) _ _ (by omega) hit hkv7) rfl ?_
        rintro _ rfl
        refine WL.nil ?_
        refine WK.anyStep (fun w h => (h.sub [6, 6, 6] rfl)) ?_
        refine WA.takeGT 34 rfl (by kernel_rfl) rfl (fun w h => (h.sub [6, 6, 6] rfl)) rfl rfl (Val.neq rfl rfl (bne_eq_false_iff_eq.2 (by omega))) rfl ?_
        refine WA.take 35 rfl (by kernel_rfl) rfl (fun w h => (h.sub [6, 6, 6] rfl)) (Val.pickBF rfl rfl) rfl ?_
        refine WA.take 36 rfl (by kernel_rfl) rfl (fun w h => (h.sub [6, 6, 6] rfl)) (Val.moveB rfl) rfl ?_
        refine WA.takeGT 37 rfl (by kernel_rfl) rfl (fun w h => (h.sub [6, 6, 6] rfl)) rfl rfl (Val.moveP rfl) rfl ?_
        refine WA.takeGT 38 rfl (by kernel_rfl) rfl (fun w h => (h.sub [6, 6, 6] rfl)) rfl rfl (Val.moveI rfl) rfl ?_
        refine WA.takeGT 40 rfl (by kernel_rfl) rfl (fun w h => (h.sub [6, 6, 6] rfl)) rfl rfl (Val.moveB rfl) rfl ?_
        refine WA.eff1 (i := 39) (by kernel_rfl) rfl rfl ?_
        refine WL.gT rfl rfl ?_
        refine WL.callK [1, 1, 1, 1, 1] rfl rfl rfl (aIsGroup A top hA x _) rfl ?_
        rintro _ rfl
        rw [hfr]
        refine WL.nil ?_
        refine WK.anyStep (fun w h => (h.sub [6, 6, 6] rfl)) ?_
        refine WA.takeGT 41 rfl (by kernel_rfl) rfl (fun w h => (h.sub [6, 6, 6] rfl)) rfl rfl (Val.moveB rfl) rfl ?_
        refine WA.takeGF 42 rfl (by kernel_rfl) rfl (fun w h => (h.sub [6, 6, 6] rfl)) rfl rfl rfl rfl ?_
        refine WA.takeGF 43 rfl (by kernel_rfl) rfl (fun w h => (h.sub [6, 6, 6] rfl)) rfl rfl rfl rfl ?_
        refine WA.takeGT 44 rfl (by kernel_rfl) rfl (fun w h => (h.sub [6, 6, 6] rfl)) rfl rfl (Val.pickBF rfl rfl) rfl ?_
        refine WA.takeGT 45 rfl (by kernel_rfl) rfl (fun w h => (h.sub [6, 6, 6] rfl)) rfl rfl (Val.neqB rfl rfl) rfl ?_
        refine WA.take 46 rfl (by kernel_rfl) rfl (fun w h => (h.sub [6, 6, 6] rfl)) (Val.pickBF rfl rfl) rfl ?_
        refine WA.done (by kernel_rfl) ?_
        exact WX.thenK (WK.meet ⟨rfl, rfl, rfl, rfl, rfl, rfl, rfl, rfl, rfl, rfl, rfl, rfl⟩)
      | some m =>
        refine WC.drawK 999 I7 [6, 6, 6] rfl (by kernel_rfl) rfl rfl ?_
        refine WA.take 0 rfl (by kernel_rfl) rfl (fun w h => (h.sub [6, 6, 6] rfl)) (Val.moveB rfl) rfl ?_
        refine WA.take 1 rfl (by kernel_rfl) rfl (fun w h => (h.sub [6, 6, 6] rfl)) (Val.moveB rfl) rfl ?_
        refine WA.take 2 rfl (by kernel_rfl) rfl (fun w h => (h.sub [6, 6, 6] rfl)) (Val.neqB rfl rfl) rfl ?_
        refine WA.take 3 rfl (by kernel_rfl) rfl (fun w h => (h.sub [6, 6, 6] rfl)) (Val.moveB rfl) rfl ?_
        refine WA.takeGT 4 rfl (by kernel_rfl) rfl (fun w h => (h.sub [6, 6, 6] rfl)) rfl rfl (Val.moveB rfl) rfl ?_
        refine WA.takeGT 5 rfl (by kernel_rfl) rfl (fun w h => (h.sub [6, 6, 6] rfl)) rfl rfl (Val.moveB rfl) rfl ?_
        refine WA.takeGT 6 rfl (by kernel_rfl) rfl (fun w h => (h.sub [6, 6, 6] rfl)) rfl rfl (Val.moveI rfl) rfl ?_
        refine WA.takeGT 7 rfl (by kernel_rfl) rfl (fun w h => (h.sub [6, 6, 6] rfl)) rfl rfl (Val.moveI rfl) rfl ?_
        refine WA.takeGT 8 rfl (by kernel_rfl) rfl (fun w h => (h.sub [6, 6, 6] rfl)) rfl rfl (Val.neq rfl rfl (bne_eq_false_iff_eq.2 (by omega))) rfl ?_
        refine WA.takeGT 9 rfl (by kernel_rfl) rfl (fun w h => (h.sub [6, 6, 6] rfl)) rfl rfl (Val.moveB rfl) rfl ?_
        refine WA.takeGT 10 rfl (by kernel_rfl) rfl (fun w h => (h.sub [6, 6, 6] rfl)) rfl rfl (Val.moveI rfl) rfl ?_
        refine WA.takeGT 11 rfl (by kernel_rfl) rfl (fun w h => (h.sub [6, 6, 6] rfl)) rfl rfl (Val.moveI rfl) rfl ?_
        refine WA.takeGT 12 rfl (by kernel_rfl) rfl (fun w h => (h.sub [6, 6, 6] rfl)) rfl rfl (Val.neq rfl rfl (bne_eq_false_iff_eq.2 (by omega))) rfl ?_
        refine WA.takeGT 13 rfl (by kernel_rfl) rfl (fun w h => (h.sub [6, 6, 6] rfl)) rfl rfl (Val.pickBF rfl rfl) rfl ?_
        refine WA.takeGT 14 rfl (by kernel_rfl) rfl (fun w h => (h.sub [6, 6, 6] rfl)) rfl rfl (Val.pickBT rfl rfl) rfl ?_
        refine WA.take 15 rfl (by kernel_rfl) rfl (fun w h => (h.sub [6, 6, 6] rfl)) (Val.pickBF rfl rfl) rfl ?_
        refine WA.take 16 rfl (by kernel_rfl) rfl (fun w h => (h.sub [6, 6, 6] rfl)) (Val.moveB rfl) rfl ?_
        refine WA.takeGT 17 rfl (by kernel_rfl) rfl (fun w h => (h.sub [6, 6, 6] rfl)) rfl rfl (Val.moveB rfl) rfl ?_
        refine WA.takeGT 18 rfl (by kernel_rfl) rfl (fun w h => (h.sub [6, 6, 6] rfl)) rfl rfl (Val.moveB rfl) rfl ?_
        refine WA.takeGT 19 rfl (by kernel_rfl) rfl (fun w h => (h.sub [6, 6, 6] rfl)) rfl rfl (Val.neqB rfl rfl) rfl ?_
        refine WA.take 20 rfl (by kernel_rfl) rfl (fun w h => (h.sub [6, 6, 6] rfl)) (Val.pickBF rfl rfl) rfl ?_
        refine WA.take 21 rfl (by kernel_rfl) rfl (fun w h => (h.sub [6, 6, 6] rfl)) (Val.moveB rfl) rfl ?_
        refine WA.takeGT 22 rfl (by kernel_rfl) rfl (fun w h => (h.sub [6, 6, 6] rfl)) rfl rfl (Val.ldO 2 rfl rfl rfl) rfl ?_
        refine WA.takeGT 23 rfl (by kernel_rfl) rfl (fun w h => (h.sub [6, 6, 6] rfl)) rfl rfl (Val.ldO 1 rfl rfl rfl) rfl ?_
        refine WA.eff1 (i := 24) (by kernel_rfl) rfl rfl ?_
        refine WL.gT rfl rfl ?_
        refine WL.callE rfl rfl (rSame _ _ (Nat.le_refl _) _ _ _ _ (by omega) hin hkn hxi hkx7) rfl (fun h => ?_) (fun h => absurd rfl h)
        refine WL.nil ?_
        refine WK.anyStep (fun w h => (h.sub [6, 6, 6] rfl)) ?_
        refine WA.takeGT 25 rfl (by kernel_rfl) rfl (fun w h => (h.sub [6, 6, 6] rfl)) rfl rfl (Val.not rfl) rfl ?_
        refine WA.take 26 rfl (by kernel_rfl) rfl (fun w h => (h.sub [6, 6, 6] rfl)) (Val.pickBF rfl rfl) rfl ?_
        refine WA.take 27 rfl (by kernel_rfl) rfl (fun w h => (h.sub [6, 6, 6] rfl)) (Val.moveB rfl) rfl ?_
        refine WA.takeGT 28 rfl (by kernel_rfl) rfl (fun w h => (h.sub [6, 6, 6] rfl)) rfl rfl (Val.moveP rfl) rfl ?_
        refine WA.takeGT 29 rfl (by kernel_rfl) rfl (fun w h => (h.sub [6, 6, 6] rfl)) rfl rfl (Val.moveI rfl) rfl ?_
        refine WA.takeGT 31 rfl (by kernel_rfl) rfl (fun w h => (h.sub [6, 6, 6] rfl)) rfl rfl (Val.ldO 0 rfl rfl rfl) rfl ?_
        refine WA.takeGT 32 rfl (by kernel_rfl) rfl (fun w h => (h.sub [6, 6, 6] rfl)) rfl rfl (Val.moveI rfl) rfl ?_
        refine WA.eff1 (i := 30) (by kernel_rfl) rfl rfl ?_
        refine WL.gT rfl rfl ?_
        refine WL.callK [1, 1, 1, 1, 1] rfl rfl rfl (aDepth A top hA x _) rfl ?_
        rintro _ rfl
        refine WL.nil ?_
        refine WK.anyStep (fun w h => (h.sub [6, 6, 6] rfl)) ?_
        refine WA.eff1 (i := 33) (by kernel_rfl) rfl rfl ?_
        refine WL.gT rfl rfl ?_
        refine WL.callS rfl rfl (rDepth x _ top (Nat.le_refl _) _ _ (by omega) hit hkv7) rfl ?_
        rintro _ rfl
        refine WL.nil ?_
        refine WK.anyStep (fun w h => (h.sub [6, 6, 6] rfl)) ?_
        refine WA.takeGT 34 rfl (by kernel_rfl) rfl (fun w h => (h.sub [6, 6, 6] rfl)) rfl rfl (Val.neq rfl rfl (bne_eq_false_iff_eq.2 (by omega))) rfl ?_
        refine WA.take 35 rfl (by kernel_rfl) rfl (fun w h => (h.sub [6, 6, 6] rfl)) (Val.pickBF rfl rfl) rfl ?_
        refine WA.take 36 rfl (by kernel_rfl) rfl (fun w h => (h.sub [6, 6, 6] rfl)) (Val.moveB rfl) rfl ?_
        refine WA.takeGT 37 rfl (by kernel_rfl) rfl (fun w h => (h.sub [6, 6, 6] rfl)) rfl rfl (Val.moveP rfl) rfl ?_
        refine WA.takeGT 38 rfl (by kernel_rfl) rfl (fun w h => (h.sub [6, 6, 6] rfl)) rfl rfl (Val.moveI rfl) rfl ?_
        refine WA.takeGT 40 rfl (by kernel_rfl) rfl (fun w h => (h.sub [6, 6, 6] rfl)) rfl rfl (Val.moveB rfl) rfl ?_
        refine WA.eff1 (i := 39) (by kernel_rfl) rfl rfl ?_
        refine WL.gT rfl rfl ?_
        refine WL.callK [1, 1, 1, 1, 1] rfl rfl rfl (aIsGroup A top hA x _) rfl ?_
        rintro _ rfl
        rw [hfr]
        refine WL.nil ?_
        refine WK.anyStep (fun w h => (h.sub [6, 6, 6] rfl)) ?_
        refine WA.takeGT 41 rfl (by kernel_rfl) rfl (fun w h => (h.sub [6, 6, 6] rfl)) rfl rfl (Val.moveB rfl) rfl ?_
        refine WA.takeGT 42 rfl (by kernel_rfl) rfl (fun w h => (h.sub [6, 6, 6] rfl)) rfl rfl (Val.fldAddr rfl) rfl ?_
        refine WA.takeGT 43 rfl (by kernel_rfl) rfl (fun w h => (h.sub [6, 6, 6] rfl)) rfl rfl (Val.loadS rfl (Rd.own1 1 rfl rfl)) rfl ?_
        refine WA.takeGT 44 rfl (by kernel_rfl) rfl (fun w h => (h.sub [6, 6, 6] rfl)) rfl rfl (Val.pickBT rfl rfl) rfl ?_
        first | refine WA.take 45 rfl (by kernel_rfl) rfl (fun w h => (h.sub [6, 6, 6] rfl)) (Val.to (show Value.bool (m.grp != m.grp) = .bool false by rw [bne_self_eq_false]) (Val.neqB rfl rfl)) rfl ?_ | refine WA.takeGT 45 rfl (by kernel_rfl) rfl (fun w h => (h.sub [6, 6, 6] rfl)) rfl rfl (Val.to (show Value.bool (m.grp != m.grp) = .bool false by rw [bne_self_eq_false]) (Val.neqB rfl rfl)) rfl ?_
        refine WA.take 46 rfl (by kernel_rfl) rfl (fun w h => (h.sub [6, 6, 6] rfl)) (Val.pickBF rfl rfl) rfl ?_
        refine WA.done (by kernel_rfl) ?_
        exact WX.thenK (WK.meet ⟨rfl, rfl, rfl, rfl, rfl, rfl, rfl, rfl, rfl, rfl, rfl, rfl⟩)
  rintro ρ' I' L' ⟨rfl, r143, r5, r6, r12, r13, r14, r21, r65, r66, r67, rfl⟩
  rw [← upd_self r67, ← upd_self r66, ← upd_self r65, ← upd_self r21, ← upd_self r14, ← upd_self r13, ← upd_self r12, ← upd_self r6, ← upd_self r5, ← upd_self r143]
  clear r67 r66 r65 r21 r14 r13 r12 r6 r5 r143
  have hko := kidsOf (Nd.find x top)
  have hfi : (Nd.find x top).isSome = false → (Nd.find x top).getD Nd.zero = Nd.zero := fun h => by
    cases hf : Nd.find x top with
    | none => rfl
    | some m => rw [hf] at h; cases h
  generalize hfr : (Nd.find x top).getD Nd.zero = xn at *
  have hss := sizes_lt xn
  have hlss := Nd.len_le_sizes xn.kids
  refine WC.condF rfl ?_
  refine WC.skip ?_
  refine WX.thenC ?_
  refine WC.seq ?_
  refine WC.region ?_
  refine WL.val (Val.moveP rfl) rfl ?_
  refine WL.val (Val.moveI rfl) rfl ?_
  refine WL.callR [1, 1, 1, 1, 1] rfl rfl rfl (aKids A top hA x _) rfl ?_
  rintro _ I8 hI8 hkids
  rw [hko] at hkids
  obtain ⟨ia, ic, rfl⟩ := hkids.sl
  have hkl2 : (xn.kids.map Nd.id).length = xn.kids.length := List.length_map ..
  have hkx8 := hkx7.mono hI8
  refine WL.val (Val.assignS rfl) rfl ?_
  refine WL.nil ?_
  refine WX.thenC ?_
  refine WC.seq ?_
  refine WC.seq ?_
  refine WC.region ?_
  refine WL.val (Val.moveS rfl) rfl ?_
  refine WL.val (Val.len rfl) rfl ?_
  refine WL.val (Val.fldAddr rfl) rfl ?_
  refine WL.val (Val.loadS rfl (Rd.own1 7 rfl rfl)) rfl ?_
  refine WL.val (Val.len rfl) rfl ?_
  refine WL.val (Val.neq rfl rfl (bne_eq_false_iff_eq.2 (by omega))) rfl ?_
  refine WL.nil ?_
  refine WX.thenC ?_
  refine WC.condF rfl ?_
  refine WC.skip ?_
  refine WX.thenC ?_
  refine WC.seq ?_
  refine WC.seq ?_
  refine WC.region ?_
  refine WL.val (Val.moveS rfl) rfl ?_
  refine WL.val (Val.len rfl) rfl ?_
  refine WL.val (Val.moveI rfl) rfl ?_
  refine WL.nil ?_
  refine WX.thenC ?_
  refine WC.block ?_
  refine WC.loop (fun m ρ' I' L' => ∃ q : Nat, m = xn.kids.length - q ∧ q ≤ xn.kids.length ∧ I' = I8 ∧ ρ' 5 = ptr A.b ∧ ρ' 6 = ptr g6 ∧ ρ' 12 = vi x ∧ ρ' 13 = ptr g13 ∧ ρ' 14 = .bool (Nd.find x top).isSome ∧ ρ' 21 = ptr g21 ∧ ρ' 23 = .slice ia (xn.kids.map Nd.id).length ic ∧ ρ' 65 = .slice (some ⟨b2, off2, none⟩) ks.length cc ∧ ρ' 66 = vi ks.length ∧ ρ' 67 = vi j ∧ ρ' 154 = vi (xn.kids.map Nd.id).length ∧ ρ' 155 = vi q ∧ L' = F :: A.on ([box g6 39 [vi top.id, .bool top.grp, .slice ka top.kids.length kc]] ++ [box g13 39 [vi xn.id, .bool xn.grp, .slice xa xn.kids.length xc], box g21 29 [vi xn.id, .bool xn.grp, .slice na xn.kids.length nc]]))
    xn.kids.length ⟨0, rfl, by omega, rfl, rfl, rfl, rfl, rfl, rfl, rfl, rfl, rfl, rfl, rfl, rfl, rfl, rfl⟩ ?_
  rintro m ρ' I9 L' ⟨q, rfl, hq, rfl, r5, r6, r12, r13, r14, r21, r23, r65, r66, r67, r154, r155, rfl⟩
  rw [← upd_self r155, ← upd_self r154, ← upd_self r67, ← upd_self r66, ← upd_self r65, ← upd_self r23, ← upd_self r21, ← upd_self r14, ← upd_self r13, ← upd_self r12, ← upd_self r6, ← upd_self r5]
  clear r155 r154 r67 r66 r65 r23 r21 r14 r13 r12 r6 r5
  by_cases hqn : q < xn.kids.length
  · have hqn2 : q < (xn.kids.map Nd.id).length := by omega
    obtain ⟨b4, off4, cap4, cs4, he, hR4, hAt4⟩ := hkids.get q hqn2
    cases he
    obtain ⟨rfl, _⟩ := hR4
    rw [List.getElem_map] at hAt4
    obtain ⟨b5, off5, cap5, cs5, he, hR5, hAt5⟩ := hkx8.get q hqn
    cases he
    obtain ⟨hi5, kv5, rfl, hks5⟩ := Nd.rep_iff.1 hR5
    refine WC.seq ?_
    refine WC.region ?_
    refine WL.val (Val.lss rfl rfl (decide_eq_true (by omega))) rfl ?_
    refine WL.nil ?_
    refine WX.thenC ?_
    refine WC.seq ?_
    refine WC.condT rfl ?_
    refine WC.skip ?_
    refine WX.thenC ?_
    refine WC.seq ?_
    refine WC.block ?_
    refine WC.seq ?_
    refine WC.region ?_
    refine WL.val (Val.moveI rfl) rfl ?_
    refine WL.val (Val.assignI rfl) rfl ?_
    refine WL.nil ?_
    refine WX.thenC ?_
    refine WC.seq ?_
    refine WC.drawK 999 I9 [6, 6, 6] rfl (by kernel_rfl) rfl rfl ?_
    refine WA.take 0 rfl (by kernel_rfl) rfl (fun w h => (h.sub [6, 6, 6] rfl)) (Val.moveS rfl) rfl ?_
    refine WA.take 1 rfl (by kernel_rfl) rfl (fun w h => (h.sub [6, 6, 6] rfl)) (Val.moveI rfl) rfl ?_
    refine WA.take 2 rfl (by kernel_rfl) rfl (fun w h => (h.sub [6, 6, 6] rfl)) (Val.indexAddr rfl rfl (by omega) (by omega)) rfl ?_
    refine WA.take 3 rfl (by kernel_rfl) rfl (fun w h => (h.sub [6, 6, 6] rfl)) (Val.loadS rfl (Rd.imm (by assumption))) rfl ?_
    refine WA.take 4 rfl (by kernel_rfl) rfl (fun w h => (h.sub [6, 6, 6] rfl)) (Val.fldAddr rfl) rfl ?_
    refine WA.take 5 rfl (by kernel_rfl) rfl (fun w h => (h.sub [6, 6, 6] rfl)) (Val.loadS rfl (Rd.own1 1 rfl rfl)) rfl ?_
    refine WA.take 6 rfl (by kernel_rfl) rfl (fun w h => (h.sub [6, 6, 6] rfl)) (Val.moveI rfl) rfl ?_
    refine WA.take 7 rfl (by kernel_rfl) rfl (fun w h => (h.sub [6, 6, 6] rfl)) (Val.indexAddr rfl rfl (by omega) (by omega)) rfl ?_
    refine WA.take 8 rfl (by kernel_rfl) rfl (fun w h => (h.sub [6, 6, 6] rfl)) (Val.fldAddr rfl) rfl ?_
    refine WA.take 9 rfl (by kernel_rfl) rfl (fun w h => (h.sub [6, 6, 6] rfl)) (Val.loadS rfl (Rd.imm (At.zero (by assumption) rfl))) rfl ?_
    refine WA.take 10 rfl (by kernel_rfl) rfl (fun w h => (h.sub [6, 6, 6] rfl)) (Val.neq rfl rfl (bne_eq_false_iff_eq.2 (by omega))) rfl ?_
    refine WA.done (by kernel_rfl) ?_
    refine WX.thenC ?_
    refine WC.condF rfl ?_
    refine WC.skip ?_
    refine WX.inNormal ?_
    refine WX.thenC ?_
    refine WC.region ?_
    refine WL.val (Val.add rfl rfl (wrap_i64 (by omega) (by omega))) rfl ?_
    refine WL.val (Val.moveI rfl) rfl ?_
    refine WL.nil ?_
    exact WX.thenK (WK.round (xn.kids.length - (q + 1)) (by omega) ⟨q + 1, rfl, by omega, rfl, rfl, rfl, rfl, rfl, rfl, rfl, rfl, rfl, rfl, rfl, rfl, rfl, rfl⟩)
  have hJ8 := hI5.trans (hI7.trans hI8)
  have hql : q = xn.kids.length := by omega
  subst hql
  refine WC.seq ?_
  refine WC.region ?_
  refine WL.val (Val.lss rfl rfl (decide_eq_false (by omega))) rfl ?_
  refine WL.nil ?_
  refine WX.thenC ?_
  refine WC.seq ?_
  refine WC.condF rfl ?_
  refine WC.exit ?_
  refine WX.thenExit ?_
  refine WX.thenExit ?_
  refine WX.inHit ?_
  refine WX.thenC ?_
  refine WC.seq ?_
  cases hsm : (Nd.find x top).isSome with
  | false =>
    refine WC.drawK 999 I9 [6, 6, 6] rfl (by kernel_rfl) rfl rfl ?_
    refine WA.take 0 rfl (by kernel_rfl) rfl (fun w h => (h.sub [6, 6, 6] rfl)) (Val.moveB rfl) rfl ?_
    refine WA.take 1 rfl (by kernel_rfl) rfl (fun w h => (h.sub [6, 6, 6] rfl)) (Val.moveB rfl) rfl ?_
    refine WA.takeGF 2 rfl (by kernel_rfl) rfl (fun w h => (h.sub [6, 6, 6] rfl)) rfl rfl rfl rfl ?_
    refine WA.takeGF 3 rfl (by kernel_rfl) rfl (fun w h => (h.sub [6, 6, 6] rfl)) rfl rfl rfl rfl ?_
    refine WA.takeGF 4 rfl (by kernel_rfl) rfl (fun w h => (h.sub [6, 6, 6] rfl)) rfl rfl rfl rfl ?_
    refine WA.takeGF 5 rfl (by kernel_rfl) rfl (fun w h => (h.sub [6, 6, 6] rfl)) rfl rfl rfl rfl ?_
    refine WA.takeGF 6 rfl (by kernel_rfl) rfl (fun w h => (h.sub [6, 6, 6] rfl)) rfl rfl rfl rfl ?_
    refine WA.takeGF 7 rfl (by kernel_rfl) rfl (fun w h => (h.sub [6, 6, 6] rfl)) rfl rfl rfl rfl ?_
    refine WA.takeGU 8 rfl (by kernel_rfl) rfl (fun w h => (h.sub [6, 6, 6] rfl)) rfl rfl rfl ?_
    refine WA.takeGU 9 rfl (by kernel_rfl) rfl (fun w h => (h.sub [6, 6, 6] rfl)) rfl rfl rfl ?_
    refine WA.takeGU 10 rfl (by kernel_rfl) rfl (fun w h => (h.sub [6, 6, 6] rfl)) rfl rfl rfl ?_
    refine WA.takeGU 11 rfl (by kernel_rfl) rfl (fun w h => (h.sub [6, 6, 6] rfl)) rfl rfl rfl ?_
    refine WA.takeGF 12 rfl (by kernel_rfl) rfl (fun w h => (h.sub [6, 6, 6] rfl)) rfl rfl rfl rfl ?_
    refine WA.take 13 rfl (by kernel_rfl) rfl (fun w h => (h.sub [6, 6, 6] rfl)) (Val.pickBF rfl rfl) rfl ?_
    refine WA.done (by kernel_rfl) ?_
    refine WX.thenC ?_
    refine WC.condF rfl ?_
    refine WC.skip ?_
    refine WX.inNormal ?_
    refine WX.thenC ?_
    refine WC.region ?_
    refine WL.val (Val.add rfl rfl (wrap_i64 (by omega) (by omega))) rfl ?_
    refine WL.val (Val.moveI rfl) rfl ?_
    refine WL.nil ?_
    refine WX.conv (fun w h => h.sub [0, 0, 0, 0, 0, 0, 0] rfl) ?_
    exact WX.thenK (WK.round (ks.length - (j + 1)) (by omega) ⟨j + 1, rfl, by omega, hJ8, rfl, rfl, rfl, rfl, rfl, rfl⟩)
  | true =>
    have hkn8 := hkn.mono hI8
    refine WC.drawK 999 I9 [6, 6, 6] rfl (by kernel_rfl) rfl rfl ?_
    refine WA.take 0 rfl (by kernel_rfl) rfl (fun w h => (h.sub [6, 6, 6] rfl)) (Val.moveB rfl) rfl ?_
    refine WA.take 1 rfl (by kernel_rfl) rfl (fun w h => (h.sub [6, 6, 6] rfl)) (Val.moveB rfl) rfl ?_
    refine WA.takeGT 2 rfl (by kernel_rfl) rfl (fun w h => (h.sub [6, 6, 6] rfl)) rfl rfl (Val.ldO 2 rfl rfl rfl) rfl ?_
    refine WA.takeGT 4 rfl (by kernel_rfl) rfl (fun w h => (h.sub [6, 6, 6] rfl)) rfl rfl (Val.ldO 1 rfl rfl rfl) rfl ?_
    refine WA.eff1 (i := 3) (by kernel_rfl) rfl rfl ?_
    refine WL.gT rfl rfl ?_
    refine WL.callR [] rfl rfl rfl (tSize xn _ _ (by omega) hin hkn8) rfl ?_
    rintro _ I10 hI10 rfl
    refine WL.nil ?_
    refine WK.anyStep (fun w h => (h.sub [6, 6, 6] rfl).less (hI10)) ?_
    refine WA.eff1 (i := 5) (by kernel_rfl) rfl rfl ?_
    refine WL.gT rfl rfl ?_
    refine WL.callS rfl rfl (rSize _ xn (Nat.le_refl _) _ _ (by omega) hxi (hkx8.mono hI10)) rfl ?_
    rintro _ rfl
    refine WL.nil ?_
    refine WK.anyStep (fun w h => (h.sub [6, 6, 6] rfl).less (hI10)) ?_
    refine WA.takeGT 6 rfl (by kernel_rfl) rfl (fun w h => (h.sub [6, 6, 6] rfl).less (hI10)) rfl rfl (Val.neq rfl rfl (bne_eq_false_iff_eq.2 (by omega))) rfl ?_
    refine WA.takeGT 7 rfl (by kernel_rfl) rfl (fun w h => (h.sub [6, 6, 6] rfl).less (hI10)) rfl rfl (Val.moveB rfl) rfl ?_
    refine WA.takeGT 8 rfl (by kernel_rfl) rfl (fun w h => (h.sub [6, 6, 6] rfl).less (hI10)) rfl rfl (Val.ldO 2 rfl rfl rfl) rfl ?_
    refine WA.takeGT 9 rfl (by kernel_rfl) rfl (fun w h => (h.sub [6, 6, 6] rfl).less (hI10)) rfl rfl (Val.ldO 2 rfl rfl rfl) rfl ?_
    refine WA.eff1 (i := 10) (by kernel_rfl) rfl rfl ?_
    refine WL.gT rfl rfl ?_
    refine WL.callE rfl rfl (tEqual _ xn (Nat.le_refl _) xn _ _ _ (by omega) hin (hkn8.mono hI10) hin (hkn8.mono hI10)) rfl (fun h => ?_) (fun h => absurd rfl h)
    refine WL.nil ?_
    refine WK.anyStep (fun w h => (h.sub [6, 6, 6] rfl).less (hI10)) ?_
    refine WA.takeGT 11 rfl (by kernel_rfl) rfl (fun w h => (h.sub [6, 6, 6] rfl).less (hI10)) rfl rfl (Val.not rfl) rfl ?_
    refine WA.takeGT 12 rfl (by kernel_rfl) rfl (fun w h => (h.sub [6, 6, 6] rfl).less (hI10)) rfl rfl (Val.pickBF rfl rfl) rfl ?_
    refine WA.take 13 rfl (by kernel_rfl) rfl (fun w h => (h.sub [6, 6, 6] rfl).less (hI10)) (Val.pickBT rfl rfl) rfl ?_
    refine WA.done (by kernel_rfl) ?_
    refine WX.thenC ?_
    refine WC.condF rfl ?_
    refine WC.skip ?_
    refine WX.inNormal ?_
    refine WX.thenC ?_
    refine WC.region ?_
    refine WL.val (Val.add rfl rfl (wrap_i64 (by omega) (by omega))) rfl ?_
    refine WL.val (Val.moveI rfl) rfl ?_
    refine WL.nil ?_
    refine WX.conv (fun w h => h.sub [0, 0, 0, 0, 0, 0, 0] rfl) ?_
    exact WX.thenK (WK.round (ks.length - (j + 1)) (by omega) ⟨j + 1, rfl, by omega, hJ8.trans hI10, rfl, rfl, rfl, rfl, rfl, rfl⟩)
end Go.Proofs.Ytfdeckdongonnab
