/-
  Tree, the program's: what reads the arena (2).
-/
import Derived.Test.YtfdeckdongonnabM2
import Derived.Test.YtfdeckdongonnabB3
import Derived.Test.YtfdeckdongonnabB2
namespace Go.Tr
open Go.Sl Go.Ls
mutual
/-- Cell i, of which p is the parent, is a node with all below. -/
def Tr (A : Ar) (p : Int) : Nat → Nd → Prop
  | i, .mk j g ks => ∃ hi : i < A.cells.length, (A.cells[i]).id = j ∧ (A.cells[i]).grp = g ∧ (A.cells[i]).par = p ∧ Trs A (i : Int) (A.cells[i]).kids ks
def Trs (A : Ar) (p : Int) : List Int → List Nd → Prop
  | [], [] => True
  | k :: l, n :: ns => (∃ q : Nat, k = (q : Int) ∧ Tr A p q n) ∧ Trs A p l ns
  | [], _ :: _ => False
  | _ :: _, [] => False
end
theorem Tr.ex {A : Ar} {p : Int} {i : Nat} {nd : Nd} (h : Tr A p i nd) : ∃ hi : i < A.cells.length, (A.cells[i]).id = nd.id ∧ (A.cells[i]).grp = nd.grp ∧ (A.cells[i]).par = p ∧ Trs A (i : Int) (A.cells[i]).kids nd.kids := by
  cases nd; rw [Tr] at h; exact h
theorem Trs.len {A : Ar} {p : Int} : ∀ {l : List Int} {ns : List Nd}, Trs A p l ns → l.length = ns.length
  | [], [], _ => rfl
  | k :: l, n :: ns, h => by rw [Trs] at h; rw [List.length_cons, List.length_cons, Trs.len h.2]
  | [], _ :: _, h => by rw [Trs] at h; exact h.elim
  | _ :: _, [], h => by rw [Trs] at h; exact h.elim
theorem Trs.get {A : Ar} {p : Int} : ∀ {l : List Int} {ns : List Nd}, Trs A p l ns → ∀ (k : Nat) (h1 : k < l.length) (h2 : k < ns.length), ∃ q : Nat, l[k] = (q : Int) ∧ Tr A p q ns[k]
  | _ :: _, _ :: _, h, 0, _, _ => by rw [Trs] at h; exact h.1
  | _ :: l, _ :: ns, h, k + 1, h1, h2 => by rw [Trs] at h; exact Trs.get h.2 k (by simpa using h1) (by simpa using h2)
  | [], [], _, k, h1, _ => by simp at h1
  | [], _ :: _, h, _, _, _ => by rw [Trs] at h; exact h.elim
  | _ :: _, [], h, _, _, _ => by rw [Trs] at h; exact h.elim
theorem Ar.row {A : Ar} {i : Nat} (hi : i < A.cells.length) : (A.cells.map Cel.row)[i]? = some (sl 3 1 (A.cells[i]).kv (A.cells[i]).kids.length ((A.cells[i]).kids.map vi)) := by
  simp [hi, Cel.row]
end Go.Tr
namespace Go.Proofs.Ytfdeckdongonnab
open Go.Sl Go.Ls Go.Tr
set_option maxRecDepth 100000
set_option maxHeartbeats 4000000
set_option linter.unusedVariables false
attribute [local irreducible] WC WL WX WK WA WAK Val Ctr RunRes ResIs Rd At sl box pt Exit.then Exit.inBlock bodyPost Code.wp wpList
theorem tBelow (A : Ar) (i t : Nat) (l : List Nat) (I : Mem) (hA : A.Ok) (hl : Ch A i l) :
    Ctr Try.prog 46 [ptr A.b, vi i, vi t] I A.hp (Keep I A.hp (EqP (t ∈ l))) := by
  refine Ctr.intro Try.func46 rfl rfl rfl fun E F => ?_
  refine WC.seq ?_
  refine WC.region ?_
  refine WL.val (Val.assignB rfl) rfl ?_
  refine WL.nil ?_
  refine WX.thenC ?_
  refine WC.seq ?_
  refine WC.block ?_
  refine WC.loop (fun n ρ' I' L' => ∃ (j : Int) (r : List Nat), n = r.length ∧ ((r = [] ∧ j < 0 ∧ I64 j) ∨ ∃ q : Nat, j = q ∧ Ch A q r) ∧ (t ∈ l ↔ t ∈ r) ∧ I' = I ∧ ρ' 0 = ptr A.b ∧ ρ' 1 = vi j ∧ ρ' 2 = vi t ∧ L' = F :: A.hp)
    l.length ⟨i, l, rfl, .inr ⟨i, rfl, hl⟩, Iff.rfl, rfl, rfl, rfl, rfl, rfl⟩ ?_
  rintro n ρ' I0 L' ⟨j, r, rfl, hr, hm, rfl, h0, h1, h2, rfl⟩
  rw [← upd_self h2, ← upd_self h1, ← upd_self h0]
  clear h2 h1 h0
  rcases hr with ⟨rfl, hj, hji⟩ | ⟨q, rfl, hr⟩
  · skip
    refine WC.seq ?_
    refine WC.seq ?_
    refine WC.region ?_
    refine WL.val (Val.moveI rfl) rfl ?_
    refine WL.val (Val.geq rfl rfl (decide_eq_false (by omega))) rfl ?_
    refine WL.nil ?_
    refine WX.thenC ?_
    refine WC.condF rfl ?_
    refine WC.exit ?_
    refine WX.thenExit ?_
    refine WX.thenExit ?_
    refine WX.inHit ?_
    refine WX.thenC ?_
    refine WC.seq ?_
    refine WC.region ?_
    refine WL.val (Val.assignB rfl) rfl ?_
    refine WL.nil ?_
    refine WX.thenC ?_
    refine WC.ret ?_
    apply WX.doneP (ks := [0, 0, 0, 0, 0])
    case hres => exact RunRes.r1 rfl (ResIs.tmpB rfl)
    case hI => first | exact Mem.le.refl _ | assumption
    exact ⟨rfl, rfl, EqP.f fun h => by simpa using hm.1 h⟩
  have hq : q < A.cells.length := by cases hr <;> assumption
  have hc := Ar.c2 hq
  have hpi := hA.par _ (List.getElem_mem hq)
  by_cases hqt : q = t
  · subst hqt
    refine WC.seq ?_
    refine WC.seq ?_
    refine WC.region ?_
    refine WL.val (Val.moveI rfl) rfl ?_
    refine WL.val (Val.geq rfl rfl (decide_eq_true (by omega))) rfl ?_
    refine WL.nil ?_
    refine WX.thenC ?_
    refine WC.condT rfl ?_
    refine WC.skip ?_
    refine WX.thenC ?_
    refine WC.seq ?_
    refine WC.block ?_
    refine WC.seq ?_
    refine WC.region ?_
    refine WL.val (Val.moveI rfl) rfl ?_
    refine WL.val (Val.moveI rfl) rfl ?_
    refine WL.val (Val.eql rfl rfl (beq_iff_eq.2 (by omega))) rfl ?_
    refine WL.nil ?_
    refine WX.thenC ?_
    refine WC.condT rfl ?_
    refine WC.seq ?_
    refine WC.region ?_
    refine WL.val (Val.assignB rfl) rfl ?_
    refine WL.nil ?_
    refine WX.thenC ?_
    refine WC.ret ?_
    refine WX.inRet ?_
    refine WX.thenRet ?_
    refine WX.thenRet ?_
    refine WX.inRet ?_
    refine WX.thenRet ?_
    apply WX.doneP (ks := [0, 0, 0, 0, 0])
    case hres => exact RunRes.r1 rfl (ResIs.tmpB rfl)
    case hI => first | exact Mem.le.refl _ | assumption
    refine ⟨rfl, rfl, EqP.t (hm.2 ?_)⟩
    cases hr <;> exact List.mem_cons_self
  · cases hr with
    | top hi hp =>
      refine WC.seq ?_
      refine WC.seq ?_
      refine WC.region ?_
      refine WL.val (Val.moveI rfl) rfl ?_
      refine WL.val (Val.geq rfl rfl (decide_eq_true (by omega))) rfl ?_
      refine WL.nil ?_
      refine WX.thenC ?_
      refine WC.condT rfl ?_
      refine WC.skip ?_
      refine WX.thenC ?_
      refine WC.seq ?_
      refine WC.block ?_
      refine WC.seq ?_
      refine WC.region ?_
      refine WL.val (Val.moveI rfl) rfl ?_
      refine WL.val (Val.moveI rfl) rfl ?_
      refine WL.val (Val.eql rfl rfl (beq_eq_false_iff_ne.2 (by omega))) rfl ?_
      refine WL.nil ?_
      refine WX.thenC ?_
      refine WC.condF rfl ?_
      refine WC.skip ?_
      refine WX.inNormal ?_
      refine WX.thenC ?_
      refine WC.region ?_
      refine WL.val (Val.moveP rfl) rfl ?_
      refine WL.val (Val.nilCheckP rfl) rfl ?_
      refine WL.val (Val.fldAddr rfl) rfl ?_
      refine WL.val (Val.loadS rfl (Rd.own1 1 rfl rfl)) rfl ?_
      refine WL.val (Val.moveI rfl) rfl ?_
      refine WL.val (Val.indexAddr rfl rfl (by omega) (by omega)) rfl ?_
      refine WL.val (Val.fldAddr rfl) rfl ?_
      refine WL.val (Val.loadS rfl (Rd.sl1 2 rfl (by assumption))) rfl ?_
      refine WL.val (Val.assignI rfl) rfl ?_
      refine WL.nil ?_
      refine WX.thenK (WK.round 0 (by simp) ⟨_, [], rfl, .inl ⟨rfl, hp, hpi⟩, ?_, rfl, rfl, rfl, rfl, rfl⟩)
      rw [hm]
      simp
      exact fun h => hqt h.symm
    | up hi hp hr =>
      rename_i p r
      rw [hp] at hc
      refine WC.seq ?_
      refine WC.seq ?_
      refine WC.region ?_
      refine WL.val (Val.moveI rfl) rfl ?_
      refine WL.val (Val.geq rfl rfl (decide_eq_true (by omega))) rfl ?_
      refine WL.nil ?_
      refine WX.thenC ?_
      refine WC.condT rfl ?_
      refine WC.skip ?_
      refine WX.thenC ?_
      refine WC.seq ?_
      refine WC.block ?_
      refine WC.seq ?_
      refine WC.region ?_
      refine WL.val (Val.moveI rfl) rfl ?_
      refine WL.val (Val.moveI rfl) rfl ?_
      refine WL.val (Val.eql rfl rfl (beq_eq_false_iff_ne.2 (by omega))) rfl ?_
      refine WL.nil ?_
      refine WX.thenC ?_
      refine WC.condF rfl ?_
      refine WC.skip ?_
      refine WX.inNormal ?_
      refine WX.thenC ?_
      refine WC.region ?_
      refine WL.val (Val.moveP rfl) rfl ?_
      refine WL.val (Val.nilCheckP rfl) rfl ?_
      refine WL.val (Val.fldAddr rfl) rfl ?_
      refine WL.val (Val.loadS rfl (Rd.own1 1 rfl rfl)) rfl ?_
      refine WL.val (Val.moveI rfl) rfl ?_
      refine WL.val (Val.indexAddr rfl rfl (by omega) (by omega)) rfl ?_
      refine WL.val (Val.fldAddr rfl) rfl ?_
      refine WL.val (Val.loadS rfl (Rd.sl1 2 rfl (by assumption))) rfl ?_
      refine WL.val (Val.assignI rfl) rfl ?_
      refine WL.nil ?_
      refine WX.thenK (WK.round r.length (by simp) ⟨p, r, rfl, .inr ⟨p, rfl, hr⟩, ?_, rfl, rfl, rfl, rfl, rfl⟩)
      rw [hm]
      simp
      exact fun h => absurd h.symm hqt
theorem tHeight (A : Ar) (hA : A.Ok) (N : Nat) : ∀ (nd : Nd), nd.size ≤ N → ∀ (p : Int) (i : Nat) (I : Mem), nd.size ≤ 1000000000 → Tr A p i nd →
    Ctr Try.prog 43 [ptr A.b, vi i] I A.hp (Keep I A.hp fun v => v = vi nd.height) := by
  induction N with
  | zero => intro nd h; have := nd.size_pos; omega
  | succ N ih =>
    intro nd hs p i I hb ht
    obtain ⟨hi, hid, hgr, hpa, hks⟩ := ht.ex
    have hsz := sizes_lt nd
    have hll := Nd.len_le_sizes nd.kids
    have hlk := hks.len
    have hc := Ar.c3 hi
    have hrow := Ar.row hi
    refine Ctr.intro Try.func43 rfl rfl rfl fun E F => ?_
    refine WC.rowOpen 5 i rfl hrow fun aa cap hkv hg => ?_
    rw [hkv] at hc hrow
    refine WC.seq ?_
    refine WC.region ?_
    refine WL.val (Val.assignI rfl) rfl ?_
    refine WL.nil ?_
    refine WX.thenC ?_
    refine WC.seq ?_
    refine WC.region ?_
    refine WL.val (Val.assignI rfl) rfl ?_
    refine WL.nil ?_
    refine WX.thenC ?_
    refine WC.seq ?_
    refine WC.seq ?_
    refine WC.region ?_
    refine WL.val (Val.moveP rfl) rfl ?_
    refine WL.val (Val.nilCheckP rfl) rfl ?_
    refine WL.val (Val.fldAddr rfl) rfl ?_
    refine WL.val (Val.loadS rfl (Rd.own1 1 rfl rfl)) rfl ?_
    refine WL.val (Val.moveI rfl) rfl ?_
    refine WL.val (Val.indexAddr rfl rfl (by omega) (by omega)) rfl ?_
    refine WL.val (Val.fldAddr rfl) rfl ?_
    refine WL.val (Val.loadS rfl (Rd.sl1 2 rfl (by assumption))) rfl ?_
    refine WL.val (Val.len rfl) rfl ?_
    refine WL.val (Val.moveI rfl) rfl ?_
    refine WL.nil ?_
    refine WX.thenC ?_
    refine WC.block ?_
    refine WC.loop (fun n ρ' I' L' => ∃ k : Nat, n = nd.kids.length - k ∧ k ≤ nd.kids.length ∧ I' = I ∧ ρ' 0 = ptr A.b ∧ ρ' 5 = vi (Nd.heights (nd.kids.take k) : Nat) ∧ ρ' 15 = .slice aa (A.cells[i]).kids.length cap ∧ ρ' 16 = vi (A.cells[i]).kids.length ∧ ρ' 17 = vi k ∧ L' = F :: A.hp)
      nd.kids.length ⟨0, rfl, by omega, rfl, rfl, rfl, rfl, rfl, rfl, rfl⟩ ?_
    rintro n ρ' I0 L' ⟨k, rfl, hk, rfl, h0, h5, h15, h16, h17, rfl⟩
    rw [← upd_self h17, ← upd_self h16, ← upd_self h15, ← upd_self h5, ← upd_self h0]
    clear h17 h16 h15 h5 h0
    by_cases hkn : k < nd.kids.length
    · obtain ⟨g, rfl⟩ := hg (by omega)
      obtain ⟨q, hq, htq⟩ := hks.get k (by omega) hkn
      have hv : ((A.cells[i]).kids.map vi)[0 + ((k : Nat) : Int).toNat * 1]? = some (vi q) := by
        rw [Nat.zero_add, Int.toNat_natCast, Nat.mul_one, List.getElem?_map, List.getElem?_eq_getElem (by omega), hq]; rfl
      have hbk := kid_sz hkn
      have htk : Nd.heights (nd.kids.take (k + 1)) = max (Nd.heights (nd.kids.take k)) nd.kids[k].height := by rw [take1 _ _ hkn, Nd.heights_app]; simp [Nd.heights]
      refine WC.seq ?_
      refine WC.region ?_
      refine WL.val (Val.lss rfl rfl (decide_eq_true (by omega))) rfl ?_
      refine WL.nil ?_
      refine WX.thenC ?_
      refine WC.seq ?_
      refine WC.condT rfl ?_
      refine WC.skip ?_
      refine WX.thenC ?_
      refine WC.seq ?_
      refine WC.block ?_
      refine WC.seq ?_
      refine WC.region ?_
      refine WL.val (Val.indexAddr rfl rfl (by omega) (by omega)) rfl ?_
      refine WL.val (Val.loadS rfl (Rd.row1 5 i rfl hrow hv)) rfl ?_
      refine WL.val (Val.assignI rfl) rfl ?_
      refine WL.nil ?_
      refine WX.thenC ?_
      refine WC.region ?_
      refine WL.val (Val.moveI rfl) rfl ?_
      refine WL.val (Val.moveP rfl) rfl ?_
      refine WL.val (Val.moveI rfl) rfl ?_
      refine WL.callK [1, 1, 1, 1, 1] rfl rfl rfl (ih _ (kid_lt hs hkn) _ _ _ (by omega) htq) rfl ?_
      rintro _ rfl
      refine WL.val (Val.maxI rfl rfl) rfl ?_
      refine WL.val (Val.assignI rfl) rfl ?_
      refine WL.nil ?_
      refine WX.inNormal ?_
      refine WX.thenC ?_
      refine WC.region ?_
      refine WL.val (Val.add rfl rfl (wrap_i64 (by omega) (by omega))) rfl ?_
      refine WL.val (Val.moveI rfl) rfl ?_
      refine WL.nil ?_
      refine WX.thenK (WK.round (nd.kids.length - (k + 1)) (by omega) ⟨k + 1, rfl, by omega, rfl, rfl, ?_, rfl, rfl, rfl, rfl⟩)
      show vi _ = vi _
      congr 1
      rw [htk]
      omega
    · have hfin : k = nd.kids.length := by omega
      have hh : Nd.heights (nd.kids.take k) + 1 = nd.height := by
        rw [hfin, List.take_length]; cases nd; rfl
      have hhl := Nd.height_le nd
      refine WC.seq ?_
      refine WC.region ?_
      refine WL.val (Val.lss rfl rfl (decide_eq_false (by omega))) rfl ?_
      refine WL.nil ?_
      refine WX.thenC ?_
      refine WC.seq ?_
      refine WC.condF rfl ?_
      refine WC.exit ?_
      refine WX.thenExit ?_
      refine WX.thenExit ?_
      refine WX.inHit ?_
      refine WX.thenC ?_
      refine WC.seq ?_
      refine WC.region ?_
      refine WL.val (Val.moveI rfl) rfl ?_
      refine WL.val (Val.add rfl rfl (wrap_i64 (by omega) (by omega))) rfl ?_
      refine WL.val (Val.assignI rfl) rfl ?_
      refine WL.nil ?_
      refine WX.thenC ?_
      refine WC.ret ?_
      apply WX.doneP (ks := [0, 0, 0, 0, 0])
      case hres => exact RunRes.r1 rfl (ResIs.tmpI rfl)
      case hI => first | exact Mem.le.refl _ | assumption
      refine ⟨rfl, rfl, ?_⟩
      show vi _ = vi _
      congr 1
      omega
end Go.Proofs.Ytfdeckdongonnab

/-
  Tree, the program's: what reads the arena (3): depth of an ID, node, kids.
-/

namespace Go.Proofs.Ytfdeckdongonnab
open Go.Sl Go.Ls Go.Tr
set_option maxRecDepth 100000
set_option maxHeartbeats 4000000
set_option linter.unusedVariables false
attribute [local irreducible] WC WL WX WK WA WAK Val Ctr RunRes ResIs Rd At sl box pt Exit.then Exit.inBlock bodyPost Code.wp wpList
theorem tDepth (A : Ar) (i : Int) (l : List Nat) (I : Mem) (hA : A.Ok) (hl : ∀ n : Nat, A.at_ i = some (n : Int) → Ch A n l) (hll : l.length ≤ 1000000000) :
    Ctr Try.prog 13 [ptr A.b, vi i] I A.hp (Keep I A.hp fun v => v = vi (if (A.at_ i).isSome then (l.length : Int) - 1 else -1)) := by
  refine Ctr.intro Try.func13 rfl rfl rfl fun E F => ?_
  refine WC.seq ?_
  refine WC.region ?_
  refine WL.val (Val.assignI rfl) rfl ?_
  refine WL.nil ?_
  refine WX.thenC ?_
  refine WC.seq ?_
  refine WC.region ?_
  refine WL.val (Val.moveP rfl) rfl ?_
  refine WL.val (Val.moveI rfl) rfl ?_
  refine WL.callK [1, 1, 1, 1, 1] rfl rfl rfl (tFind A i _) rfl ?_
  rintro _ rfl
  cases hat : A.at_ i with
  | none =>
    refine WL.val (Val.moveT rfl) rfl ?_
    refine WL.val (Val.extractI rfl rfl) rfl ?_
    refine WL.val (Val.extractB rfl rfl) rfl ?_
    refine WL.val (Val.assignI rfl) rfl ?_
    refine WL.val (Val.assignB rfl) rfl ?_
    refine WL.nil ?_
    refine WX.thenC ?_
    refine WC.seq ?_
    refine WC.seq ?_
    refine WC.region ?_
    refine WL.val (Val.moveB rfl) rfl ?_
    refine WL.val (Val.not rfl) rfl ?_
    refine WL.nil ?_
    refine WX.thenC ?_
    refine WC.condT rfl ?_
    refine WC.seq ?_
    refine WC.region ?_
    refine WL.val (Val.assignI rfl) rfl ?_
    refine WL.nil ?_
    refine WX.thenC ?_
    refine WC.ret ?_
    refine WX.thenRet ?_
    apply WX.doneP (ks := [0, 0, 0, 0, 0])
    case hres => exact RunRes.r1 rfl (ResIs.tmpI rfl)
    case hI => first | exact Mem.le.refl _ | assumption
    exact ⟨rfl, rfl, rfl⟩
  | some p =>
    obtain ⟨n, rfl, hn⟩ := hA.at_lt i p hat
    simp only [Option.getD_some, Option.isSome_some, if_true]
    refine WL.val (Val.moveT rfl) rfl ?_
    refine WL.val (Val.extractI rfl rfl) rfl ?_
    refine WL.val (Val.extractB rfl rfl) rfl ?_
    refine WL.val (Val.assignI rfl) rfl ?_
    refine WL.val (Val.assignB rfl) rfl ?_
    refine WL.nil ?_
    refine WX.thenC ?_
    refine WC.seq ?_
    refine WC.seq ?_
    refine WC.region ?_
    refine WL.val (Val.moveB rfl) rfl ?_
    refine WL.val (Val.not rfl) rfl ?_
    refine WL.nil ?_
    refine WX.thenC ?_
    refine WC.condF rfl ?_
    refine WC.skip ?_
    refine WX.thenC ?_
    refine WC.seq ?_
    refine WC.region ?_
    refine WL.val (Val.moveP rfl) rfl ?_
    refine WL.val (Val.moveI rfl) rfl ?_
    refine WL.callK [1, 1, 1, 1, 1] rfl rfl rfl (tDepthP A n l _ hA (hl n hat) hll) rfl ?_
    rintro _ rfl
    refine WL.val (Val.assignI rfl) rfl ?_
    refine WL.nil ?_
    refine WX.thenC ?_
    refine WC.ret ?_
    apply WX.doneP (ks := [0, 0, 0, 0, 0])
    case hres => exact RunRes.r1 rfl (ResIs.tmpI rfl)
    case hI => first | exact Mem.le.refl _ | assumption
    exact ⟨rfl, rfl, rfl⟩
/-- A node, in the immutable heap. -/
def NdAt (n : Nd) : Value → Mem → Prop := fun v I' => ∃ kv, v = .agg #[vi n.id, .bool n.grp, kv] ∧ LsAt Nd.Rp I' n.kids kv ∧ I64 n.id
theorem tNode (A : Ar) (hA : A.Ok) (N : Nat) : ∀ (nd : Nd), nd.size ≤ N → ∀ (p : Int) (i : Nat) (I : Mem), nd.size ≤ 1000000000 → Tr A p i nd →
    Ctr Try.prog 55 [ptr A.b, vi i] I A.hp (KeepR A.hp (NdAt nd)) := by
  induction N with
  | zero => intro nd h; have := nd.size_pos; omega
  | succ N ih =>
    intro nd hs p i I hb ht
    obtain ⟨hi, hid, hgr, hpa, hks⟩ := ht.ex
    have hsz := sizes_lt nd
    have hll := Nd.len_le_sizes nd.kids
    have hlk := hks.len
    have hrow := Ar.row hi
    have hI64 : I64 nd.id := by rw [← hid]; exact hA.id _ (List.getElem_mem hi)
    refine Ctr.intro Try.func55 rfl rfl rfl fun E F => ?_
    refine WC.rowOpen 5 i rfl hrow fun aa cap hkv hg => ?_
    have hrd : ∀ j v, [vi nd.id, .bool nd.grp, vi p, .slice aa nd.kids.length cap][j]? = some v → A.flat[0 + ((i : Nat) : Int).toNat * 4 + j]? = some v := by
      intro j v hj
      have hj4 : j < 4 := by
        rcases Nat.lt_or_ge j 4 with h | h
        · exact h
        · rw [List.getElem?_eq_none (by simpa using h)] at hj; cases hj
      rw [Ar.at hi j hj4, ← hj]
      simp only [Cel.cs, hid, hgr, hpa, hkv, hlk]
    rw [hkv] at hrow
    refine WC.seq ?_
    refine WC.region ?_
    (refine WL.alloc rfl ?_; intro _)
    refine WL.nApp ?_
    refine WL.nil ?_
    refine WX.thenC ?_
    refine WC.seq ?_
    refine WC.region ?_
    refine WL.val (Val.moveP rfl) rfl ?_
    refine WL.val (Val.nilCheckP rfl) rfl ?_
    refine WL.val (Val.fldAddr rfl) rfl ?_
    refine WL.val (Val.loadS rfl (Rd.own1 1 rfl rfl)) rfl ?_
    refine WL.val (Val.moveI rfl) rfl ?_
    refine WL.val (Val.indexAddr rfl rfl (by omega) (by omega)) rfl ?_
    refine WL.val (Val.loadA rfl (Rd.slN 2 rfl _ [vi nd.id, .bool nd.grp, vi p, .slice aa nd.kids.length cap] hrd) rfl) rfl ?_
    (refine WL.alloc rfl ?_; intro _)
    refine WL.nApp ?_
    refine WL.stA 7 rfl rfl rfl rfl ?_
    refine WL.nil ?_
    refine WX.thenC ?_
    refine WC.seq ?_
    refine WC.region ?_
    refine WL.val (Val.fldAddr rfl) rfl ?_
    refine WL.val (Val.loadS rfl (Rd.own1 7 rfl rfl)) rfl ?_
    refine WL.val (Val.fldAddr rfl) rfl ?_
    refine WL.val (Val.loadS rfl (Rd.own1 7 rfl rfl)) rfl ?_
    refine WL.val (Val.build (cs := [vi nd.id, .bool nd.grp, .slice none 0 0]) rfl) rfl ?_
    (refine WL.alloc rfl ?_; intro _)
    refine WL.nApp ?_
    refine WL.stA 8 rfl rfl rfl rfl ?_
    refine WL.nil ?_
    refine WX.thenC ?_
    refine WC.seq ?_
    refine WC.seq ?_
    refine WC.region ?_
    refine WL.val (Val.fldAddr rfl) rfl ?_
    refine WL.val (Val.loadS rfl (Rd.own1 7 rfl rfl)) rfl ?_
    refine WL.val (Val.len rfl) rfl ?_
    refine WL.val (Val.moveI rfl) rfl ?_
    refine WL.nil ?_
    refine WX.thenC ?_
    refine WC.block ?_
    rename_i g4 g5 g6
    refine WC.slNil 29 3 ?_
    refine WC.nApp ?_
    refine WC.loop (fun n ρ' I' L' => ∃ (k : Nat) (a : Option Addr) (c : Nat) (pp : HP), n = nd.kids.length - k ∧ k ≤ nd.kids.length ∧ I.le I' ∧ ρ' 0 = ptr A.b ∧ ρ' 4 = ptr g4 ∧ ρ' 6 = ptr g6 ∧ ρ' 22 = .slice aa nd.kids.length cap ∧ ρ' 23 = vi nd.kids.length ∧ ρ' 24 = vi k ∧
        L' = F :: A.on [box g4 29 [vi 0, .bool false, .slice none 0 0], box g5 73 [vi nd.id, .bool nd.grp, vi p, .slice aa nd.kids.length cap], box g6 29 [vi nd.id, .bool nd.grp, .slice a k c], pp] ∧ OwnL Nd.Rp 29 3 I' (nd.kids.take k) (.slice a k c) pp)
      nd.kids.length ⟨0, none, 0, _, rfl, by omega, Mem.le.refl _, rfl, rfl, rfl, rfl, rfl, rfl, rfl, [], rfl, trivial⟩ ?_
    rintro n ρ' I0 L' ⟨k, a, c, pp, rfl, hk, hI, h0, h4, h6, h22, h23, h24, rfl, hp⟩
    rw [← upd_self h24, ← upd_self h23, ← upd_self h22, ← upd_self h6, ← upd_self h4, ← upd_self h0]
    clear h24 h23 h22 h6 h4 h0
    have hwl : (nd.kids.take k).length = k := by rw [List.length_take]; omega
    by_cases hkn : k < nd.kids.length
    · obtain ⟨g, rfl⟩ := hg (by omega)
      obtain ⟨q, hq, htq⟩ := hks.get k (by omega) hkn
      have hv : ((A.cells[i]).kids.map vi)[0 + ((k : Nat) : Int).toNat * 1]? = some (vi q) := by
        rw [Nat.zero_add, Int.toNat_natCast, Nat.mul_one, List.getElem?_map, List.getElem?_eq_getElem (by omega), hq]; rfl
      have hbk := kid_sz hkn
      have htk : nd.kids.take (k + 1) = nd.kids.take k ++ [nd.kids[k]] := take1 _ _ hkn
      refine WC.seq ?_
      refine WC.region ?_
      refine WL.val (Val.lss rfl rfl (decide_eq_true (by omega))) rfl ?_
      refine WL.nil ?_
      refine WX.thenC ?_
      refine WC.seq ?_
      refine WC.condT rfl ?_
      refine WC.skip ?_
      refine WX.thenC ?_
      refine WC.seq ?_
      refine WC.block ?_
      refine WC.seq ?_
      refine WC.region ?_
      refine WL.val (Val.indexAddr rfl rfl (by omega) (by omega)) rfl ?_
      refine WL.val (Val.loadS rfl (Rd.row1 5 i rfl hrow hv)) rfl ?_
      refine WL.val (Val.assignI rfl) rfl ?_
      refine WL.nil ?_
      refine WX.thenC ?_
      refine WC.drawK 8 I0 [8] rfl (by kernel_rfl) rfl rfl ?_
      refine WA.take 0 rfl (by kernel_rfl) rfl (fun w h => (h.sub [8] rfl)) (Val.fldAddr rfl) rfl ?_
      refine WA.take 1 rfl (by kernel_rfl) rfl (fun w h => (h.sub [8] rfl)) (Val.loadS rfl (Rd.own1 0 rfl rfl)) rfl ?_
      refine WA.take 2 rfl (by kernel_rfl) rfl (fun w h => (h.sub [8] rfl)) (Val.moveP rfl) rfl ?_
      refine WA.take 3 rfl (by kernel_rfl) rfl (fun w h => (h.sub [8] rfl)) (Val.moveI rfl) rfl ?_
      refine WA.eff1 (i := 4) (by kernel_rfl) rfl rfl ?_
      refine WL.callR [1, 1, 1, 1, 1] rfl rfl rfl (ih _ (kid_lt hs hkn) _ _ _ (by omega) htq) rfl ?_
      rintro v I2 hI2 ⟨kw, rfl, hw, hiw⟩
      have hw0 := hw
      obtain ⟨a3, c3, rfl⟩ := hw.sl
      refine WL.nil ?_
      refine WK.anyStep (fun w h => (h.sub [8] rfl).less (hI2)) ?_
      refine WA.eff1 (i := 5) (by kernel_rfl) rfl rfl ?_
      (refine WL.buildSlice (by with_unfolding_all exact rfl) rfl (by with_unfolding_all exact rfl) rfl ?_; intro _)
      rename_i g7
      refine WL.nApp ?_
      refine WL.nil ?_
      refine WK.anyStep (fun w h => (h.sub [8] rfl).less (hI2)) ?_
      refine WA.eff1 (i := 6) (by kernel_rfl) rfl rfl ?_
      refine WL.appOne (y := nd.kids[k]) (cs := [vi nd.kids[k].id, .bool nd.kids[k].grp, .slice a3 nd.kids[k].kids.length c3]) 9 10 rfl rfl (hp.mono hI2) rfl rfl (Nd.rep_iff.2 ⟨hiw, _, rfl, hw⟩) rfl rfl (by rfl) (by decide) (by rw [hwl]; omega) (by rw [hwl]; unfold maxLen; omega) rfl fun aa cc p' hp' => ?_
      refine WL.nSet ?_
      refine WL.nil ?_
      refine WK.anyStep (fun w h => (h.sub [8] rfl).less (hI2)) ?_
      refine WA.take 7 rfl (by kernel_rfl) rfl (fun w h => (h.sub [8] rfl).less (hI2)) (Val.fldAddr rfl) rfl ?_
      refine WA.eff1 (i := 8) (by kernel_rfl) rfl rfl ?_
      refine WL.stS 8 rfl rfl rfl rfl ?_
      refine WL.nil ?_
      refine WK.anyLast ?_
      refine WA.done (by kernel_rfl) ?_
      refine WX.inNormal ?_
      refine WX.thenC ?_
      refine WC.region ?_
      refine WL.val (Val.add rfl rfl (wrap_i64 (by omega) (by omega))) rfl ?_
      refine WL.val (Val.moveI rfl) rfl ?_
      refine WL.nil ?_
      rw [hwl] at hp' ⊢
      refine WX.conv (fun w h => h.sub [0, 0, 0, 0, 0, 0, 0, 0, 0, 0] rfl) ?_
      exact WX.thenK (WK.round (nd.kids.length - (k + 1)) (by omega) ⟨k + 1, aa, cc, p', rfl, by omega, hI.trans hI2, rfl, rfl, rfl, rfl, rfl, rfl, rfl, by rw [htk]; exact hp'⟩)
    · skip
      refine WC.seq ?_
      refine WC.region ?_
      refine WL.val (Val.lss rfl rfl (decide_eq_false (by omega))) rfl ?_
      refine WL.nil ?_
      refine WX.thenC ?_
      refine WC.seq ?_
      refine WC.condF rfl ?_
      refine WC.exit ?_
      refine WX.thenExit ?_
      refine WX.thenExit ?_
      refine WX.inHit ?_
      refine WX.thenC ?_
      refine WC.seq ?_
      refine WC.region ?_
      refine WL.val (Val.ldO 8 rfl rfl rfl) rfl ?_
      refine WL.stA 6 rfl rfl rfl rfl ?_
      refine WL.nil ?_
      refine WX.thenC ?_
      refine WC.ret ?_
      refine WX.freezeL 9 rfl hp fun I2 hI2 hv => ?_
      have hJ := hI.trans hI2
      apply WX.doneP (ks := [0, 0, 0, 0, 0])
      case hres => exact RunRes.r1 rfl (ResIs.cellL 6 rfl rfl rfl)
      case hI => first | exact Mem.le.refl _ | assumption
      have : k = nd.kids.length := by omega
      subst this
      rw [List.take_length] at hv
      exact ⟨rfl, .slice a nd.kids.length c, rfl, hv, hI64⟩
theorem tNodeI (A : Ar) (i : Int) (nd : Nd) (I : Mem) (hA : A.Ok) (hb : nd.size ≤ 1000000000) (hn : ∀ n : Nat, A.at_ i = some (n : Int) → ∃ p, Tr A p n nd) :
    Ctr Try.prog 20 [ptr A.b, vi i] I A.hp (KeepR A.hp fun v I' => ∃ nv, v = .tuple #[nv, .bool (A.at_ i).isSome] ∧ NdAt (if (A.at_ i).isSome then nd else Nd.zero) nv I') := by
  refine Ctr.intro Try.func20 rfl rfl rfl fun E F => ?_
  refine WC.seq ?_
  refine WC.region ?_
  (refine WL.alloc rfl ?_; intro _)
  refine WL.nApp ?_
  refine WL.val (Val.assignB rfl) rfl ?_
  refine WL.nil ?_
  refine WX.thenC ?_
  refine WC.seq ?_
  refine WC.region ?_
  refine WL.val (Val.moveP rfl) rfl ?_
  refine WL.val (Val.moveI rfl) rfl ?_
  refine WL.callK [1, 1, 1, 1, 1] rfl rfl rfl (tFind A i _) rfl ?_
  rintro _ rfl
  cases hat : A.at_ i with
  | none =>
    refine WL.val (Val.moveT rfl) rfl ?_
    refine WL.val (Val.extractI rfl rfl) rfl ?_
    refine WL.val (Val.extractB rfl rfl) rfl ?_
    refine WL.val (Val.assignI rfl) rfl ?_
    refine WL.val (Val.assignB rfl) rfl ?_
    refine WL.nil ?_
    refine WX.thenC ?_
    refine WC.seq ?_
    refine WC.seq ?_
    refine WC.region ?_
    refine WL.val (Val.moveB rfl) rfl ?_
    refine WL.val (Val.not rfl) rfl ?_
    refine WL.nil ?_
    refine WX.thenC ?_
    refine WC.condT rfl ?_
    refine WC.seq ?_
    refine WC.region ?_
    refine WL.val (Val.build0) rfl ?_
    refine WL.stA 6 rfl rfl rfl rfl ?_
    refine WL.val (Val.assignB rfl) rfl ?_
    refine WL.nil ?_
    refine WX.thenC ?_
    refine WC.ret ?_
    refine WX.thenRet ?_
    apply WX.doneP (ks := [0, 0, 0, 0, 0])
    case hres => exact RunRes.r2 rfl (ResIs.cellL 6 rfl rfl rfl) (ResIs.tmpB rfl)
    case hI => first | exact Mem.le.refl _ | assumption
    exact ⟨rfl, _, rfl, _, rfl, LsAt.nil _ _, i64_0⟩
  | some p =>
    obtain ⟨n, rfl, hn'⟩ := hA.at_lt i p hat
    obtain ⟨pp, ht⟩ := hn n hat
    simp only [Option.getD_some, Option.isSome_some, if_true]
    refine WL.val (Val.moveT rfl) rfl ?_
    refine WL.val (Val.extractI rfl rfl) rfl ?_
    refine WL.val (Val.extractB rfl rfl) rfl ?_
    refine WL.val (Val.assignI rfl) rfl ?_
    refine WL.val (Val.assignB rfl) rfl ?_
    refine WL.nil ?_
    refine WX.thenC ?_
    refine WC.seq ?_
    refine WC.seq ?_
    refine WC.region ?_
    refine WL.val (Val.moveB rfl) rfl ?_
    refine WL.val (Val.not rfl) rfl ?_
    refine WL.nil ?_
    refine WX.thenC ?_
    refine WC.condF rfl ?_
    refine WC.skip ?_
    refine WX.thenC ?_
    refine WC.seq ?_
    refine WC.region ?_
    refine WL.val (Val.moveP rfl) rfl ?_
    refine WL.val (Val.moveI rfl) rfl ?_
    refine WL.callR [1, 1, 1, 1, 1] rfl rfl rfl (tNode A hA _ nd (Nat.le_refl _) _ _ _ hb ht) rfl ?_
    rintro v I2 hI2 ⟨kw, rfl, hw, hiw⟩
    have hw0 := hw
    obtain ⟨a3, c3, rfl⟩ := hw.sl
    refine WL.stA 6 rfl rfl rfl rfl ?_
    refine WL.val (Val.assignB rfl) rfl ?_
    refine WL.nil ?_
    refine WX.thenC ?_
    refine WC.ret ?_
    apply WX.doneP (ks := [0, 0, 0, 0, 0])
    case hres => exact RunRes.r2 rfl (ResIs.cellL 6 rfl rfl rfl) (ResIs.tmpB rfl)
    case hI => first | exact Mem.le.refl _ | assumption
    exact ⟨rfl, _, rfl, _, rfl, hw, hiw⟩
/-- Numbers, in the immutable heap. -/
theorem tKids (A : Ar) (i : Int) (nd : Nd) (I : Mem) (hA : A.Ok) (hb : nd.size ≤ 1000000000) (hn : ∀ n : Nat, A.at_ i = some (n : Int) → ∃ p, Tr A p n nd) :
    Ctr Try.prog 28 [ptr A.b, vi i] I A.hp (KeepR A.hp fun v I' => LsAt Ls.Int.rep I' (if (A.at_ i).isSome then nd.kids.map Nd.id else []) v) := by
  refine Ctr.intro Try.func28 rfl rfl rfl fun E F => ?_
  refine WC.seq ?_
  refine WC.region ?_
  refine WL.val (Val.assignS rfl) rfl ?_
  refine WL.nil ?_
  refine WX.thenC ?_
  refine WC.seq ?_
  refine WC.region ?_
  refine WL.val (Val.moveP rfl) rfl ?_
  refine WL.val (Val.moveI rfl) rfl ?_
  refine WL.callK [1, 1, 1, 1, 1] rfl rfl rfl (tFind A i _) rfl ?_
  rintro _ rfl
  cases hat : A.at_ i with
  | none =>
    refine WL.val (Val.moveT rfl) rfl ?_
    refine WL.val (Val.extractI rfl rfl) rfl ?_
    refine WL.val (Val.extractB rfl rfl) rfl ?_
    refine WL.val (Val.assignI rfl) rfl ?_
    refine WL.val (Val.assignB rfl) rfl ?_
    refine WL.nil ?_
    refine WX.thenC ?_
    refine WC.seq ?_
    refine WC.seq ?_
    refine WC.region ?_
    refine WL.val (Val.moveB rfl) rfl ?_
    refine WL.val (Val.not rfl) rfl ?_
    refine WL.nil ?_
    refine WX.thenC ?_
    refine WC.condT rfl ?_
    refine WC.seq ?_
    refine WC.region ?_
    refine WL.val (Val.assignS rfl) rfl ?_
    refine WL.nil ?_
    refine WX.thenC ?_
    refine WC.ret ?_
    refine WX.thenRet ?_
    apply WX.doneP (ks := [0, 0, 0, 0, 0])
    case hres => exact RunRes.r1 rfl (ResIs.tmpS rfl)
    case hI => first | exact Mem.le.refl _ | assumption
    exact ⟨rfl, LsAt.nil _ _⟩
  | some p =>
    obtain ⟨n, rfl, hn'⟩ := hA.at_lt i p hat
    obtain ⟨pp, ht⟩ := hn n hat
    simp only [Option.getD_some, Option.isSome_some, if_true]
    obtain ⟨hi, hid, hgr, hpa, hks⟩ := ht.ex
    have hsz := sizes_lt nd
    have hll := Nd.len_le_sizes nd.kids
    have hlk := hks.len
    have hc := Ar.c3 hi
    have hrow := Ar.row hi
    refine WL.rowOpen 5 n rfl hrow fun aa cap hkv hg => ?_
    rw [hkv, hlk] at hrow
    rw [hkv, hlk] at hc
    refine WL.slNil 3 1 ?_
    refine WL.nApp ?_
    refine WL.val (Val.moveT rfl) rfl ?_
    refine WL.val (Val.extractI rfl rfl) rfl ?_
    refine WL.val (Val.extractB rfl rfl) rfl ?_
    refine WL.val (Val.assignI rfl) rfl ?_
    refine WL.val (Val.assignB rfl) rfl ?_
    refine WL.nil ?_
    refine WX.thenC ?_
    refine WC.seq ?_
    refine WC.seq ?_
    refine WC.region ?_
    refine WL.val (Val.moveB rfl) rfl ?_
    refine WL.val (Val.not rfl) rfl ?_
    refine WL.nil ?_
    refine WX.thenC ?_
    refine WC.condF rfl ?_
    refine WC.skip ?_
    refine WX.thenC ?_
    refine WC.seq ?_
    refine WC.region ?_
    refine WL.val (Val.assignS rfl) rfl ?_
    refine WL.nil ?_
    refine WX.thenC ?_
    refine WC.seq ?_
    refine WC.seq ?_
    refine WC.region ?_
    refine WL.val (Val.moveP rfl) rfl ?_
    refine WL.val (Val.nilCheckP rfl) rfl ?_
    refine WL.val (Val.fldAddr rfl) rfl ?_
    refine WL.val (Val.loadS rfl (Rd.own1 1 rfl rfl)) rfl ?_
    refine WL.val (Val.moveI rfl) rfl ?_
    refine WL.val (Val.indexAddr rfl rfl (by omega) (by omega)) rfl ?_
    refine WL.val (Val.fldAddr rfl) rfl ?_
    refine WL.val (Val.loadS rfl (Rd.sl1 2 rfl (by assumption))) rfl ?_
    refine WL.val (Val.len rfl) rfl ?_
    refine WL.val (Val.moveI rfl) rfl ?_
    refine WL.nil ?_
    refine WX.thenC ?_
    refine WC.block ?_
    refine WC.loop (fun m ρ' I' L' => ∃ (k : Nat) (a : Option Addr) (c : Nat) (pp : HP), m = nd.kids.length - k ∧ k ≤ nd.kids.length ∧ I.le I' ∧ ρ' 0 = ptr A.b ∧ ρ' 7 = .slice a k c ∧ ρ' 25 = .slice aa nd.kids.length cap ∧ ρ' 26 = vi nd.kids.length ∧ ρ' 27 = vi k ∧
        L' = F :: A.on [pp] ∧ OwnL Ls.Int.rep 3 1 I' ((nd.kids.take k).map Nd.id) (.slice a k c) pp)
      nd.kids.length ⟨0, none, 0, _, rfl, by omega, Mem.le.refl _, rfl, rfl, rfl, rfl, rfl, rfl, [], rfl, trivial⟩ ?_
    rintro m ρ' I0 L' ⟨k, a, c, pp, rfl, hk, hI, h0, h7, h25, h26, h27, rfl, hp⟩
    rw [← upd_self h27, ← upd_self h26, ← upd_self h25, ← upd_self h7, ← upd_self h0]
    clear h27 h26 h25 h7 h0
    have hwl : ((nd.kids.take k).map Nd.id).length = k := by rw [List.length_map, List.length_take]; omega
    by_cases hkn : k < nd.kids.length
    · obtain ⟨g, rfl⟩ := hg (by omega)
      obtain ⟨q, hq, htq⟩ := hks.get k (by omega) hkn
      obtain ⟨hiq, hidq, _⟩ := htq.ex
      have hcq := Ar.c0 hiq
      rw [hidq] at hcq
      have h64 : I64 nd.kids[k].id := by rw [← hidq]; exact hA.id _ (List.getElem_mem hiq)
      have hv : ((A.cells[n]).kids.map vi)[0 + ((k : Nat) : Int).toNat * 1]? = some (vi q) := by
        rw [Nat.zero_add, Int.toNat_natCast, Nat.mul_one, List.getElem?_map, List.getElem?_eq_getElem (by omega), hq]; rfl
      have htk : (nd.kids.take (k + 1)).map Nd.id = (nd.kids.take k).map Nd.id ++ [nd.kids[k].id] := by rw [take1 _ _ hkn, List.map_append]; rfl
      refine WC.seq ?_
      refine WC.region ?_
      refine WL.val (Val.lss rfl rfl (decide_eq_true (by omega))) rfl ?_
      refine WL.nil ?_
      refine WX.thenC ?_
      refine WC.seq ?_
      refine WC.condT rfl ?_
      refine WC.skip ?_
      refine WX.thenC ?_
      refine WC.seq ?_
      refine WC.block ?_
      refine WC.seq ?_
      refine WC.region ?_
      refine WL.val (Val.indexAddr rfl rfl (by omega) (by omega)) rfl ?_
      refine WL.val (Val.loadS rfl (Rd.row1 5 n rfl hrow hv)) rfl ?_
      refine WL.val (Val.assignI rfl) rfl ?_
      refine WL.nil ?_
      refine WX.thenC ?_
      refine WC.region ?_
      refine WL.val (Val.moveS rfl) rfl ?_
      refine WL.val (Val.moveP rfl) rfl ?_
      refine WL.val (Val.nilCheckP rfl) rfl ?_
      refine WL.val (Val.fldAddr rfl) rfl ?_
      refine WL.val (Val.loadS rfl (Rd.own1 1 rfl rfl)) rfl ?_
      refine WL.val (Val.moveI rfl) rfl ?_
      refine WL.val (Val.indexAddr rfl rfl (by omega) (by omega)) rfl ?_
      refine WL.val (Val.fldAddr rfl) rfl ?_
      refine WL.val (Val.loadS rfl (Rd.sl1 2 rfl (by assumption))) rfl ?_
      (refine WL.buildSlice (by with_unfolding_all exact rfl) rfl (by with_unfolding_all exact rfl) rfl ?_; intro _)
      refine WL.nApp ?_
      refine WL.appOne (y := nd.kids[k].id) (cs := [vi nd.kids[k].id]) 6 7 rfl rfl hp rfl rfl ⟨rfl, h64⟩ rfl rfl (by rfl) (by decide) (by rw [hwl]; omega) (by rw [hwl]; unfold maxLen; omega) rfl fun aa cc p' hp' => ?_
      refine WL.nSet ?_
      refine WL.val (Val.assignS rfl) rfl ?_
      refine WL.nil ?_
      refine WX.inNormal ?_
      refine WX.thenC ?_
      refine WC.region ?_
      refine WL.val (Val.add rfl rfl (wrap_i64 (by omega) (by omega))) rfl ?_
      refine WL.val (Val.moveI rfl) rfl ?_
      refine WL.nil ?_
      rw [hwl] at hp' ⊢
      refine WX.conv (fun w h => h.sub [0, 0, 0, 0, 0, 0, 0] rfl) ?_
      exact WX.thenK (WK.round (nd.kids.length - (k + 1)) (by omega) ⟨k + 1, aa, cc, p', rfl, by omega, hI, rfl, rfl, rfl, rfl, rfl, rfl, by rw [htk]; exact hp'⟩)
    · skip
      refine WC.seq ?_
      refine WC.region ?_
      refine WL.val (Val.lss rfl rfl (decide_eq_false (by omega))) rfl ?_
      refine WL.nil ?_
      refine WX.thenC ?_
      refine WC.seq ?_
      refine WC.condF rfl ?_
      refine WC.exit ?_
      refine WX.thenExit ?_
      refine WX.thenExit ?_
      refine WX.inHit ?_
      refine WX.thenC ?_
      refine WC.seq ?_
      refine WC.region ?_
      refine WL.val (Val.moveS rfl) rfl ?_
      refine WL.val (Val.assignS rfl) rfl ?_
      refine WL.nil ?_
      refine WX.thenC ?_
      refine WC.ret ?_
      refine WX.freezeL 6 rfl hp fun I2 hI2 hv => ?_
      have hJ := hI.trans hI2
      apply WX.doneP (ks := [0, 0, 0, 0, 0])
      case hres => exact RunRes.r1 rfl (ResIs.tmpS rfl)
      case hI => first | exact Mem.le.refl _ | assumption
      have : k = nd.kids.length := by omega
      subst this
      rw [List.take_length] at hv
      exact ⟨rfl, hv⟩
end Go.Proofs.Ytfdeckdongonnab

/-
  The library's slices: Index, Insert at []int.
-/

namespace Go.Proofs.Ytfdeckdongonnab
open Go.Sl Go.Ls Go.Tr
set_option maxRecDepth 100000
set_option maxHeartbeats 4000000
set_option linter.unusedVariables false
instance : OvK Try.prog 60 59 := ⟨_, 4, rfl, by kernel_rfl, by kernel_rfl, by kernel_rfl, by kernel_rfl⟩
attribute [local irreducible] WC WL WX WK WA WAK Val Ctr RunRes ResIs Rd At sl box pt Exit.then Exit.inBlock bodyPost Code.wp wpList
/-- Where a number is in a list. -/
def PosP (x : Int) (xs : List Int) : Value → Prop := fun v => (∃ k : Nat, v = vi k ∧ xs[k]? = some x ∧ x ∉ xs.take k) ∨ (v = vi (-1) ∧ x ∉ xs)
theorem sIndex (x : Int) (xs : List Int) (v : Value) (I : Mem) (hl : xs.length ≤ 1099511627776) :
    Ctr Try.prog 63 [v, vi x] I [sl 3 1 v xs.length (xs.map vi)] (Keep I [sl 3 1 v xs.length (xs.map vi)] (PosP x xs)) := by
  refine Ctr.intro Try.func63 rfl rfl rfl fun E F => ?_
  refine WC.slOpen 1 rfl fun aa cap hv hg hc => ?_
  subst hv
  refine WC.seq ?_
  refine WC.region ?_
  refine WL.val (Val.assignI rfl) rfl ?_
  refine WL.nil ?_
  refine WX.thenC ?_
  refine WC.seq ?_
  refine WC.seq ?_
  refine WC.region ?_
  refine WL.val (Val.moveS rfl) rfl ?_
  refine WL.val (Val.len rfl) rfl ?_
  refine WL.val (Val.moveI rfl) rfl ?_
  refine WL.nil ?_
  refine WX.thenC ?_
  refine WC.block ?_
  refine WC.loop (fun n ρ' I' L' => ∃ k : Nat, n = xs.length - k ∧ k ≤ xs.length ∧ I' = I ∧ ρ' 0 = .slice aa xs.length cap ∧ ρ' 1 = vi x ∧ ρ' 7 = vi xs.length ∧ ρ' 8 = vi k ∧ L' = [F, sl 3 1 (.slice aa xs.length cap) xs.length (xs.map vi)] ∧ x ∉ xs.take k)
    xs.length ⟨0, rfl, by omega, rfl, rfl, rfl, rfl, rfl, rfl, by simp⟩ ?_
  rintro n ρ' I0 L' ⟨k, rfl, hk, rfl, h0, h1, h7, h8, rfl, hnot⟩
  rw [← upd_self h8, ← upd_self h7, ← upd_self h1, ← upd_self h0]
  clear h8 h7 h1 h0
  by_cases hkn : k < xs.length
  · obtain ⟨g, rfl⟩ := hg (by omega)
    have hget : (xs.map vi)[0 + (k : Int).toNat * 1]? = some (vi xs[k]) := by simp [hkn]
    have htk := take1 xs k hkn
    have hk? : xs[k]? = some xs[k] := List.getElem?_eq_getElem hkn
    generalize xs[k] = y at *
    by_cases hxy : x = y
    · subst hxy
      refine WC.seq ?_
      refine WC.region ?_
      refine WL.val (Val.lss rfl rfl (decide_eq_true (by omega))) rfl ?_
      refine WL.nil ?_
      refine WX.thenC ?_
      refine WC.seq ?_
      refine WC.condT rfl ?_
      refine WC.skip ?_
      refine WX.thenC ?_
      refine WC.seq ?_
      refine WC.block ?_
      refine WC.seq ?_
      refine WC.region ?_
      refine WL.val (Val.moveI rfl) rfl ?_
      refine WL.val (Val.assignI rfl) rfl ?_
      refine WL.nil ?_
      refine WX.thenC ?_
      refine WC.seq ?_
      refine WC.region ?_
      refine WL.val (Val.moveI rfl) rfl ?_
      refine WL.val (Val.moveS rfl) rfl ?_
      refine WL.val (Val.moveI rfl) rfl ?_
      refine WL.val (Val.indexAddr rfl rfl (by omega) (by omega)) rfl ?_
      refine WL.val (Val.loadS rfl (Rd.sl1 1 rfl (by assumption))) rfl ?_
      refine WL.val (Val.eql rfl rfl (beq_iff_eq.2 (by omega))) rfl ?_
      refine WL.nil ?_
      refine WX.thenC ?_
      refine WC.condT rfl ?_
      refine WC.seq ?_
      refine WC.region ?_
      refine WL.val (Val.moveI rfl) rfl ?_
      refine WL.val (Val.assignI rfl) rfl ?_
      refine WL.nil ?_
      refine WX.thenC ?_
      refine WC.ret ?_
      refine WX.inRet ?_
      refine WX.thenRet ?_
      refine WX.thenRet ?_
      refine WX.inRet ?_
      refine WX.thenRet ?_
      apply WX.doneP (ks := [0])
      case hres => exact RunRes.r1 rfl (ResIs.tmpI rfl)
      case hI => first | exact Mem.le.refl _ | assumption
      exact ⟨rfl, rfl, .inl ⟨k, rfl, hk?, hnot⟩⟩
    · skip
      refine WC.seq ?_
      refine WC.region ?_
      refine WL.val (Val.lss rfl rfl (decide_eq_true (by omega))) rfl ?_
      refine WL.nil ?_
      refine WX.thenC ?_
      refine WC.seq ?_
      refine WC.condT rfl ?_
      refine WC.skip ?_
      refine WX.thenC ?_
      refine WC.seq ?_
      refine WC.block ?_
      refine WC.seq ?_
      refine WC.region ?_
      refine WL.val (Val.moveI rfl) rfl ?_
      refine WL.val (Val.assignI rfl) rfl ?_
      refine WL.nil ?_
      refine WX.thenC ?_
      refine WC.seq ?_
      refine WC.region ?_
      refine WL.val (Val.moveI rfl) rfl ?_
      refine WL.val (Val.moveS rfl) rfl ?_
      refine WL.val (Val.moveI rfl) rfl ?_
      refine WL.val (Val.indexAddr rfl rfl (by omega) (by omega)) rfl ?_
      refine WL.val (Val.loadS rfl (Rd.sl1 1 rfl (by assumption))) rfl ?_
      refine WL.val (Val.eql rfl rfl (beq_eq_false_iff_ne.2 (by omega))) rfl ?_
      refine WL.nil ?_
      refine WX.thenC ?_
      refine WC.condF rfl ?_
      refine WC.skip ?_
      refine WX.inNormal ?_
      refine WX.thenC ?_
      refine WC.region ?_
      refine WL.val (Val.add rfl rfl (wrap_i64 (by omega) (by omega))) rfl ?_
      refine WL.val (Val.moveI rfl) rfl ?_
      refine WL.nil ?_
      refine WX.thenK (WK.round (xs.length - (k + 1)) (by omega) ⟨k + 1, rfl, by omega, rfl, rfl, rfl, rfl, rfl, rfl, ?_⟩)
      rw [htk]
      intro hm
      rcases List.mem_append.1 hm with hm | hm
      · exact hnot hm
      · exact hxy (List.mem_singleton.1 hm)
  · have : k = xs.length := by omega
    rw [this, List.take_length] at hnot
    refine WC.seq ?_
    refine WC.region ?_
    refine WL.val (Val.lss rfl rfl (decide_eq_false (by omega))) rfl ?_
    refine WL.nil ?_
    refine WX.thenC ?_
    refine WC.seq ?_
    refine WC.condF rfl ?_
    refine WC.exit ?_
    refine WX.thenExit ?_
    refine WX.thenExit ?_
    refine WX.inHit ?_
    refine WX.thenC ?_
    refine WC.seq ?_
    refine WC.region ?_
    refine WL.val (Val.assignI rfl) rfl ?_
    refine WL.nil ?_
    refine WX.thenC ?_
    refine WC.ret ?_
    apply WX.doneP (ks := [0])
    case hres => exact RunRes.r1 rfl (ResIs.tmpI rfl)
    case hI => first | exact Mem.le.refl _ | assumption
    exact ⟨rfl, rfl, .inr ⟨rfl, hnot⟩⟩
theorem all_vi (l : List Int) : (l.map vi).all Value.oneCell' = true := by
  rw [List.all_eq_true]
  intro v hv
  obtain ⟨x, _, rfl⟩ := List.mem_map.1 hv
  rfl
theorem sInsert (xs ys : List Int) (i : Nat) (s v : Value) (I : Mem) (hi : i ≤ xs.length) (hm : 0 < ys.length) (hl : xs.length + ys.length ≤ 1099511627776) :
    Ctr Try.prog 40 [s, vi i, v] I [sl 3 1 s xs.length (xs.map vi), sl 3 1 v ys.length (ys.map vi)]
      (fun r I' L' => I' = I ∧ L' = [sl 3 1 r (xs.length + ys.length) ((xs.take i ++ ys ++ xs.drop i).map vi), sl 3 1 v ys.length (ys.map vi)]) := by
  refine Ctr.intro Try.func40 rfl rfl rfl fun E F => ?_
  refine WC.slOpen 1 rfl fun sa sc hs hsg hsc => ?_
  subst hs
  refine WC.slOpen 2 rfl fun va vc hv hvg hvc => ?_
  subst hv
  obtain ⟨vg, rfl⟩ := hvg hm
  refine WC.seq ?_
  refine WC.region ?_
  refine WL.val (Val.assignS rfl) rfl ?_
  refine WL.nil ?_
  refine WX.thenC ?_
  refine WC.seq ?_
  refine WC.region ?_
  refine WL.val (Val.moveS rfl) rfl ?_
  refine WL.val (Val.moveI rfl) rfl ?_
  refine WL.val (Val.slice (l := i) rfl (.some (e := (i : Int)) rfl (Int.natCast_nonneg i)) (.none _) hi hsc) rfl ?_
  by_cases hin : i = xs.length
  · skip
    refine WL.nil ?_
    refine WX.thenC ?_
    refine WC.seq ?_
    refine WC.region ?_
    refine WL.val (Val.moveS rfl) rfl ?_
    refine WL.val (Val.len rfl) rfl ?_
    refine WL.val (Val.assignI rfl) rfl ?_
    refine WL.nil ?_
    refine WX.thenC ?_
    refine WC.seq ?_
    refine WC.seq ?_
    refine WC.region ?_
    refine WL.val (Val.moveI rfl) rfl ?_
    refine WL.val (Val.eql rfl rfl (beq_eq_false_iff_ne.2 (by omega))) rfl ?_
    refine WL.nil ?_
    refine WX.thenC ?_
    refine WC.condF rfl ?_
    refine WC.skip ?_
    refine WX.thenC ?_
    refine WC.seq ?_
    refine WC.region ?_
    refine WL.val (Val.moveS rfl) rfl ?_
    refine WL.val (Val.len rfl) rfl ?_
    refine WL.val (Val.assignI rfl) rfl ?_
    refine WL.nil ?_
    refine WX.thenC ?_
    refine WC.seq ?_
    refine WC.seq ?_
    refine WC.region ?_
    refine WL.val (Val.moveI rfl) rfl ?_
    refine WL.val (Val.moveI rfl) rfl ?_
    refine WL.val (Val.eql rfl rfl (beq_iff_eq.2 (by omega))) rfl ?_
    refine WL.nil ?_
    refine WX.thenC ?_
    refine WC.condT rfl ?_
    refine WC.seq ?_
    refine WC.region ?_
    refine WL.val (Val.moveS rfl) rfl ?_
    refine WL.val (Val.moveS rfl) rfl ?_
    refine WL.append 1 rfl rfl rfl (Rd.slN 2 rfl 0 (ys.map vi) (fun j v h => by rw [Nat.zero_add]; exact h)) (by rw [List.length_map, Nat.mul_one]) (all_vi ys) rfl (by decide) hm (by omega) (by unfold maxLen; omega) rfl fun g cap => ?_
    refine WL.nSet ?_
    refine WL.val (Val.assignS rfl) rfl ?_
    refine WL.nil ?_
    refine WX.thenC ?_
    refine WC.ret ?_
    refine WX.thenRet ?_
    apply WX.doneP (ks := [0, 0])
    case hres => exact RunRes.r1 rfl (ResIs.tmpS rfl)
    case hI => first | exact Mem.le.refl _ | assumption
    refine ⟨rfl, ?_⟩
    rw [hin, List.take_length, List.drop_length, List.append_nil, List.map_append]
  obtain ⟨sg, rfl⟩ := hsg (by omega)
  have hmin : (i : Int) ≠ xs.length := by omega
  have hml : ((xs.drop i).map vi).length = xs.length - i := by rw [List.length_map, List.length_drop]
  have hil := fun C => ins_list (C := C) (xs := xs.map vi) (ys := ys.map vi) (i := i) (n := xs.length) (m := ys.length)
  have hres : (xs.map vi).take i ++ ys.map vi ++ (xs.map vi).drop i = (xs.take i ++ ys ++ xs.drop i).map vi := by
    simp only [List.map_append, List.map_take, List.map_drop]
  by_cases hroom : sc < xs.length + ys.length
  · skip
    refine WL.nil ?_
    refine WX.thenC ?_
    refine WC.seq ?_
    refine WC.region ?_
    refine WL.val (Val.moveS rfl) rfl ?_
    refine WL.val (Val.len rfl) rfl ?_
    refine WL.val (Val.assignI rfl) rfl ?_
    refine WL.nil ?_
    refine WX.thenC ?_
    refine WC.seq ?_
    refine WC.seq ?_
    refine WC.region ?_
    refine WL.val (Val.moveI rfl) rfl ?_
    refine WL.val (Val.eql rfl rfl (beq_eq_false_iff_ne.2 (by omega))) rfl ?_
    refine WL.nil ?_
    refine WX.thenC ?_
    refine WC.condF rfl ?_
    refine WC.skip ?_
    refine WX.thenC ?_
    refine WC.seq ?_
    refine WC.region ?_
    refine WL.val (Val.moveS rfl) rfl ?_
    refine WL.val (Val.len rfl) rfl ?_
    refine WL.val (Val.assignI rfl) rfl ?_
    refine WL.nil ?_
    refine WX.thenC ?_
    refine WC.seq ?_
    refine WC.seq ?_
    refine WC.region ?_
    refine WL.val (Val.moveI rfl) rfl ?_
    refine WL.val (Val.moveI rfl) rfl ?_
    refine WL.val (Val.eql rfl rfl (beq_eq_false_iff_ne.2 (by omega))) rfl ?_
    refine WL.nil ?_
    refine WX.thenC ?_
    refine WC.condF rfl ?_
    refine WC.skip ?_
    refine WX.thenC ?_
    refine WC.seq ?_
    refine WC.seq ?_
    refine WC.region ?_
    refine WL.val (Val.moveI rfl) rfl ?_
    refine WL.val (Val.moveI rfl) rfl ?_
    refine WL.val (Val.add rfl rfl (wrap_i64 (by omega) (by omega))) rfl ?_
    refine WL.val (Val.moveS rfl) rfl ?_
    refine WL.val (Val.cap rfl) rfl ?_
    refine WL.val (Val.gtr rfl rfl (decide_eq_true (by omega))) rfl ?_
    refine WL.nil ?_
    refine WX.thenC ?_
    refine WC.condT rfl ?_
    refine WC.seq ?_
    refine WC.region ?_
    refine WL.val (Val.moveS rfl) rfl ?_
    refine WL.val (Val.moveI rfl) rfl ?_
    refine WL.val (Val.sliceTo rfl rfl (by omega)) rfl ?_
    refine WL.val (Val.moveI rfl) rfl ?_
    refine WL.val (Val.moveI rfl) rfl ?_
    refine WL.val (Val.add rfl rfl (wrap_i64 (by omega) (by omega))) rfl ?_
    refine WL.val (Val.moveI rfl) rfl ?_
    refine WL.val (Val.sub rfl rfl (wrap_i64 (by omega) (by omega))) rfl ?_
    refine WL.slOut 1 rfl fun cs k1 k2 k3 k4 => ?_
    refine WL.nSet ?_
    have hcs : ∀ q u, (xs.map vi)[q]? = some u → cs[q]? = some u := fun q u h => by
      rw [← k2, List.getElem?_take] at h
      split at h
      · exact h
      · cases h
    refine WL.appZeros (q := xs.length + ys.length - i) 1 rfl rfl (by show vi _ = vi _; congr 1; omega) (by omega) (by omega) (by omega) (by omega) rfl fun g2 cap2 hc2 hm2 => ?_
    refine WL.nApp ?_
    have hq : i + (xs.length + ys.length - i) = xs.length + ys.length := by omega
    rw [hq] at hc2 ⊢
    have hCl : (cs.take i ++ List.replicate (xs.length + ys.length - i) (vi 0) ++ List.replicate (cap2 - (xs.length + ys.length)) (vi 0)).length = cap2 := by
      simp only [List.length_append, List.length_take, List.length_replicate]; omega
    have hp : (cs.take i ++ List.replicate (xs.length + ys.length - i) (vi 0) ++ List.replicate (cap2 - (xs.length + ys.length)) (vi 0)).take i = (xs.map vi).take i := by
      rw [List.append_assoc, List.take_append_of_le_length (by rw [List.length_take]; omega), List.take_take, Nat.min_self, ← k2, List.take_take, Nat.min_eq_left (by omega)]
    generalize cs.take i ++ List.replicate (xs.length + ys.length - i) (vi 0) ++ List.replicate (cap2 - (xs.length + ys.length)) (vi 0) = C at *
    have hfin := (hil C (by simp) (by simp) hi (by omega) hp).2
    refine WL.val (Val.assignS rfl) rfl ?_
    refine WL.nil ?_
    refine WX.thenC ?_
    refine WC.seq ?_
    refine WC.region ?_
    refine WL.val (Val.moveS rfl) rfl ?_
    refine WL.val (Val.moveI rfl) rfl ?_
    refine WL.val (Val.sliceFrom rfl rfl (by omega) (by omega) (by omega)) rfl ?_
    refine WL.val (Val.moveS rfl) rfl ?_
    refine WL.copyRd 3 rfl rfl rfl (Rd.slN 2 rfl 0 (ys.map vi) (fun j u h => by rw [Nat.zero_add]; exact h)) (by rw [List.length_map]; exact (Nat.min_eq_left (by omega)).symm) (all_vi ys) (by rw [List.length_map]; omega) rfl ?_
    refine WL.nSet ?_
    refine WL.nil ?_
    refine WX.thenC ?_
    refine WC.seq ?_
    refine WC.drawK 999 I [] rfl (by kernel_rfl) rfl rfl ?_
    refine WA.take 0 rfl (by kernel_rfl) rfl (fun w h => (h.sub [] rfl)) (Val.moveS rfl) rfl ?_
    refine WA.take 1 rfl (by kernel_rfl) rfl (fun w h => (h.sub [] rfl)) (Val.moveI rfl) rfl ?_
    refine WA.take 2 rfl (by kernel_rfl) rfl (fun w h => (h.sub [] rfl)) (Val.moveI rfl) rfl ?_
    refine WA.take 3 rfl (by kernel_rfl) rfl (fun w h => (h.sub [] rfl)) (Val.add rfl rfl (wrap_i64 (by omega) (by omega))) rfl ?_
    first | refine WA.take 4 rfl (by kernel_rfl) rfl (fun w h => (h.sub [] rfl)) (Val.sliceFrom (m := i + ys.length) rfl rfl (by omega) (by omega) (by omega)) rfl ?_ | refine WA.takeGT 4 rfl (by kernel_rfl) rfl (fun w h => (h.sub [] rfl)) rfl rfl (Val.sliceFrom (m := i + ys.length) rfl rfl (by omega) (by omega) (by omega)) rfl ?_
    refine WA.take 5 rfl (by kernel_rfl) rfl (fun w h => (h.sub [] rfl)) (Val.moveS rfl) rfl ?_
    refine WA.take 6 rfl (by kernel_rfl) rfl (fun w h => (h.sub [] rfl)) (Val.moveI rfl) rfl ?_
    first | refine WA.take 7 rfl (by kernel_rfl) rfl (fun w h => (h.sub [] rfl)) (Val.sliceFrom (m := i) rfl rfl (by omega) (by omega) (by omega)) rfl ?_ | refine WA.takeGT 7 rfl (by kernel_rfl) rfl (fun w h => (h.sub [] rfl)) rfl rfl (Val.sliceFrom (m := i) rfl rfl (by omega) (by omega) (by omega)) rfl ?_
    refine WA.eff1 (i := 8) (by kernel_rfl) rfl rfl ?_
    refine WL.copyRd (ys := (xs.drop i).map vi) 3 rfl rfl rfl (Rd.own 1 rfl _ _ (fun j u h => by
      rw [List.map_drop, List.getElem?_drop] at h
      rw [Nat.zero_add, Nat.mul_one]
      exact hcs _ _ h)) (by rw [hml]; exact (Nat.min_eq_left (by omega)).symm) (all_vi _) (by rw [hml, splice_length (by rw [List.length_map]; omega)]; omega) rfl ?_
    refine WL.nSet ?_
    refine WL.nil ?_
    refine WK.anyStep (fun w h => (h.sub [] rfl)) ?_
    refine WA.done (by kernel_rfl) ?_
    refine WX.thenC ?_
    refine WC.seq ?_
    refine WC.region ?_
    refine WL.val (Val.moveS rfl) rfl ?_
    refine WL.val (Val.assignS rfl) rfl ?_
    refine WL.nil ?_
    refine WX.thenC ?_
    refine WC.ret ?_
    refine WX.thenRet ?_
    refine WX.slIn (xs := (xs.take i ++ ys ++ xs.drop i).map vi) (sz := 1) (n := xs.length + ys.length) (cap := cap2) 3 rfl (by rw [splice_length (by rw [hml, splice_length (by rw [List.length_map]; omega)]; omega), splice_length (by rw [List.length_map]; omega)]; omega) (by omega) hm2 (by rw [← hres, Nat.mul_one, ← hfin]; simp only [Nat.zero_add, Nat.mul_one, List.map_drop]) ?_
    apply WX.doneP (ks := [2, 1])
    case hres => exact RunRes.r1 rfl (ResIs.tmpS rfl)
    case hI => first | exact Mem.le.refl _ | assumption
    exact ⟨rfl, rfl⟩
  · skip
    refine WL.nil ?_
    refine WX.thenC ?_
    refine WC.seq ?_
    refine WC.region ?_
    refine WL.val (Val.moveS rfl) rfl ?_
    refine WL.val (Val.len rfl) rfl ?_
    refine WL.val (Val.assignI rfl) rfl ?_
    refine WL.nil ?_
    refine WX.thenC ?_
    refine WC.seq ?_
    refine WC.seq ?_
    refine WC.region ?_
    refine WL.val (Val.moveI rfl) rfl ?_
    refine WL.val (Val.eql rfl rfl (beq_eq_false_iff_ne.2 (by omega))) rfl ?_
    refine WL.nil ?_
    refine WX.thenC ?_
    refine WC.condF rfl ?_
    refine WC.skip ?_
    refine WX.thenC ?_
    refine WC.seq ?_
    refine WC.region ?_
    refine WL.val (Val.moveS rfl) rfl ?_
    refine WL.val (Val.len rfl) rfl ?_
    refine WL.val (Val.assignI rfl) rfl ?_
    refine WL.nil ?_
    refine WX.thenC ?_
    refine WC.seq ?_
    refine WC.seq ?_
    refine WC.region ?_
    refine WL.val (Val.moveI rfl) rfl ?_
    refine WL.val (Val.moveI rfl) rfl ?_
    refine WL.val (Val.eql rfl rfl (beq_eq_false_iff_ne.2 (by omega))) rfl ?_
    refine WL.nil ?_
    refine WX.thenC ?_
    refine WC.condF rfl ?_
    refine WC.skip ?_
    refine WX.thenC ?_
    refine WC.seq ?_
    refine WC.seq ?_
    refine WC.region ?_
    refine WL.val (Val.moveI rfl) rfl ?_
    refine WL.val (Val.moveI rfl) rfl ?_
    refine WL.val (Val.add rfl rfl (wrap_i64 (by omega) (by omega))) rfl ?_
    refine WL.val (Val.moveS rfl) rfl ?_
    refine WL.val (Val.cap rfl) rfl ?_
    refine WL.val (Val.gtr rfl rfl (decide_eq_false (by omega))) rfl ?_
    refine WL.nil ?_
    refine WX.thenC ?_
    refine WC.condF rfl ?_
    refine WC.skip ?_
    refine WX.thenC ?_
    refine WC.seq ?_
    refine WC.region ?_
    refine WL.val (Val.moveS rfl) rfl ?_
    refine WL.val (Val.moveI rfl) rfl ?_
    refine WL.val (Val.moveI rfl) rfl ?_
    refine WL.val (Val.add rfl rfl (wrap_i64 (by omega) (by omega))) rfl ?_
    refine WL.val (Val.sliceTo (m := xs.length + ys.length) rfl rfl (by omega)) rfl ?_
    refine WL.val (Val.assignS rfl) rfl ?_
    refine WL.nil ?_
    refine WX.thenC ?_
    refine WC.seq ?_
    refine WC.seq ?_
    refine WC.region ?_
    refine WL.val (Val.moveS rfl) rfl ?_
    refine WL.val (Val.moveS rfl) rfl ?_
    refine WL.val (Val.moveI rfl) rfl ?_
    refine WL.val (Val.moveI rfl) rfl ?_
    refine WL.val (Val.add rfl rfl (wrap_i64 (by omega) (by omega))) rfl ?_
    refine WL.val (Val.sliceFrom (m := i + ys.length) rfl rfl (by omega) (by omega) (by omega)) rfl ?_
    refine WL.slOut 1 rfl fun cs k1 k2 k3 k4 => ?_
    refine WL.nSet ?_
    refine WL.slOut 2 rfl fun ds j1 j2 j3 j4 => ?_
    refine WL.nSet ?_
    have hcs : ∀ q u, (xs.map vi)[q]? = some u → cs[q]? = some u := fun q u h => by
      rw [← k2, List.getElem?_take] at h
      split at h
      · exact h
      · cases h
    have hds : ∀ q u, (ys.map vi)[q]? = some u → ds[q]? = some u := fun q u h => by
      rw [← j2, List.getElem?_take] at h
      split at h
      · exact h
      · cases h
    refine WL.val (Val.overlaps 2 1 rfl rfl rfl rfl rfl (by decide) (by omega)) rfl ?_
    have hp : cs.take i = (xs.map vi).take i := by rw [← k2, List.take_take, Nat.min_eq_left (by omega)]
    have hfin := (hil cs (by simp) (by simp) hi (by omega) hp).1
    refine WL.val (Val.not rfl) rfl ?_
    refine WL.nil ?_
    refine WX.thenC ?_
    refine WC.condT rfl ?_
    refine WC.seq ?_
    refine WC.drawK 999 I [] rfl (by kernel_rfl) rfl rfl ?_
    refine WA.take 0 rfl (by kernel_rfl) rfl (fun w h => (h.sub [] rfl)) (Val.moveS rfl) rfl ?_
    refine WA.take 1 rfl (by kernel_rfl) rfl (fun w h => (h.sub [] rfl)) (Val.moveI rfl) rfl ?_
    refine WA.take 2 rfl (by kernel_rfl) rfl (fun w h => (h.sub [] rfl)) (Val.moveI rfl) rfl ?_
    refine WA.take 3 rfl (by kernel_rfl) rfl (fun w h => (h.sub [] rfl)) (Val.add rfl rfl (wrap_i64 (by omega) (by omega))) rfl ?_
    first | refine WA.take 4 rfl (by kernel_rfl) rfl (fun w h => (h.sub [] rfl)) (Val.sliceFrom (m := i + ys.length) rfl rfl (by omega) (by omega) (by omega)) rfl ?_ | refine WA.takeGT 4 rfl (by kernel_rfl) rfl (fun w h => (h.sub [] rfl)) rfl rfl (Val.sliceFrom (m := i + ys.length) rfl rfl (by omega) (by omega) (by omega)) rfl ?_
    refine WA.take 5 rfl (by kernel_rfl) rfl (fun w h => (h.sub [] rfl)) (Val.moveS rfl) rfl ?_
    refine WA.take 6 rfl (by kernel_rfl) rfl (fun w h => (h.sub [] rfl)) (Val.moveI rfl) rfl ?_
    first | refine WA.take 7 rfl (by kernel_rfl) rfl (fun w h => (h.sub [] rfl)) (Val.sliceFrom (m := i) rfl rfl (by omega) (by omega) (by omega)) rfl ?_ | refine WA.takeGT 7 rfl (by kernel_rfl) rfl (fun w h => (h.sub [] rfl)) rfl rfl (Val.sliceFrom (m := i) rfl rfl (by omega) (by omega) (by omega)) rfl ?_
    refine WA.eff1 (i := 8) (by kernel_rfl) rfl rfl ?_
    refine WL.copyRd (ys := (xs.drop i).map vi) 1 rfl rfl rfl (Rd.own 1 rfl _ _ (fun j u h => by
      rw [List.map_drop, List.getElem?_drop] at h
      rw [Nat.zero_add, Nat.mul_one]
      exact hcs _ _ h)) (by rw [hml]; show _ = min _ _; omega) (all_vi _) (by rw [hml]; omega) rfl ?_
    refine WL.nSet ?_
    refine WL.nil ?_
    refine WK.anyStep (fun w h => (h.sub [] rfl)) ?_
    refine WA.done (by kernel_rfl) ?_
    refine WX.thenC ?_
    refine WC.seq ?_
    refine WC.region ?_
    refine WL.val (Val.moveS rfl) rfl ?_
    refine WL.val (Val.moveI rfl) rfl ?_
    refine WL.val (Val.sliceFrom (m := i) rfl rfl (by omega) (by omega) (by omega)) rfl ?_
    refine WL.val (Val.moveS rfl) rfl ?_
    refine WL.copyRd (ys := ys.map vi) 1 rfl rfl rfl (Rd.own 2 rfl _ _ (fun j u h => by rw [Nat.zero_add]; exact hds _ _ h)) (by rw [List.length_map]; exact (Nat.min_eq_left (by omega)).symm) (all_vi ys) (by rw [List.length_map, splice_length (by rw [hml]; omega)]; omega) rfl ?_
    refine WL.nSet ?_
    refine WL.nil ?_
    refine WX.thenC ?_
    refine WC.seq ?_
    refine WC.region ?_
    refine WL.val (Val.moveS rfl) rfl ?_
    refine WL.val (Val.assignS rfl) rfl ?_
    refine WL.nil ?_
    refine WX.thenC ?_
    refine WC.ret ?_
    refine WX.thenRet ?_
    refine WX.slIn (xs := (xs.take i ++ ys ++ xs.drop i).map vi) (sz := 1) (n := xs.length + ys.length) (cap := sc) 1 rfl (by rw [splice_length (by rw [List.length_map, splice_length (by rw [hml]; omega)]; omega), splice_length (by rw [hml]; omega)]; omega) (by omega) k4 (by rw [← hres, Nat.mul_one, ← hfin]; simp only [Nat.zero_add, Nat.mul_one, List.map_drop]) ?_
    refine WX.slIn (xs := ys.map vi) (sz := 1) (n := ys.length) (cap := vc) 2 rfl j1 j3 j4 j2 ?_
    apply WX.doneP (ks := [0, 0])
    case hres => exact RunRes.r1 rfl (ResIs.tmpS rfl)
    case hI => first | exact Mem.le.refl _ | assumption
    exact ⟨rfl, rfl⟩
end Go.Proofs.Ytfdeckdongonnab

/-
  The library's slices: Delete at []int.
-/

namespace Go.Proofs.Ytfdeckdongonnab
open Go.Sl Go.Ls Go.Tr
set_option maxRecDepth 100000
set_option maxHeartbeats 4000000
set_option linter.unusedVariables false
attribute [local irreducible] WC WL WX WK WA WAK Val Ctr RunRes ResIs Rd At sl box pt Exit.then Exit.inBlock bodyPost Code.wp wpList
theorem sDelete (xs : List Int) (i j : Nat) (s : Value) (I : Mem) (hij : i < j) (hj : j ≤ xs.length) (hl : xs.length ≤ 1099511627776) :
    Ctr Try.prog 64 [s, vi i, vi j] I [sl 3 1 s xs.length (xs.map vi)]
      (fun r I' L' => I' = I ∧ L' = [sl 3 1 r (i + (xs.length - j)) ((xs.take i ++ xs.drop j).map vi)]) := by
  refine Ctr.intro Try.func64 rfl rfl rfl fun E F => ?_
  refine WC.slOpen 1 rfl fun sa sc hs hsg hsc => ?_
  subst hs
  obtain ⟨sg, rfl⟩ := hsg (by omega)
  refine WC.seq ?_
  refine WC.region ?_
  refine WL.val (Val.assignS rfl) rfl ?_
  refine WL.nil ?_
  refine WX.thenC ?_
  refine WC.seq ?_
  refine WC.region ?_
  refine WL.val (Val.moveS rfl) rfl ?_
  refine WL.val (Val.moveI rfl) rfl ?_
  refine WL.val (Val.moveI rfl) rfl ?_
  refine WL.val (Val.moveS rfl) rfl ?_
  refine WL.val (Val.len rfl) rfl ?_
  refine WL.val (Val.slice3L (l := i) (h := j) (m := xs.length) rfl rfl rfl rfl (by omega) (by omega) (by omega)) rfl ?_
  refine WL.slOut 1 rfl fun cs k1 k2 k3 k4 => ?_
  refine WL.nSet ?_
  have hcs : ∀ q u, (xs.map vi)[q]? = some u → cs[q]? = some u := fun q u h => by
    rw [← k2, List.getElem?_take] at h
    split at h
    · exact h
    · cases h
  have hml : ((xs.drop j).map vi).length = xs.length - j := by rw [List.length_map, List.length_drop]
  have hp : cs.take i = (xs.map vi).take i := by rw [← k2, List.take_take, Nat.min_eq_left (by omega)]
  refine WL.nil ?_
  refine WX.thenC ?_
  refine WC.seq ?_
  refine WC.seq ?_
  refine WC.region ?_
  refine WL.val (Val.moveI rfl) rfl ?_
  refine WL.val (Val.moveI rfl) rfl ?_
  refine WL.val (Val.eql rfl rfl (beq_eq_false_iff_ne.2 (by omega))) rfl ?_
  refine WL.nil ?_
  refine WX.thenC ?_
  refine WC.condF rfl ?_
  refine WC.skip ?_
  refine WX.thenC ?_
  refine WC.seq ?_
  refine WC.region ?_
  refine WL.val (Val.moveS rfl) rfl ?_
  refine WL.val (Val.len rfl) rfl ?_
  refine WL.val (Val.assignI rfl) rfl ?_
  refine WL.nil ?_
  refine WX.thenC ?_
  refine WC.seq ?_
  refine WC.drawK 999 I [] rfl (by kernel_rfl) rfl rfl ?_
  refine WA.take 0 rfl (by kernel_rfl) rfl (fun w h => (h.sub [] rfl)) (Val.moveS rfl) rfl ?_
  refine WA.take 1 rfl (by kernel_rfl) rfl (fun w h => (h.sub [] rfl)) (Val.moveI rfl) rfl ?_
  first | refine WA.take 2 rfl (by kernel_rfl) rfl (fun w h => (h.sub [] rfl)) (Val.sliceTo (m := i) rfl rfl (by omega)) rfl ?_ | refine WA.takeGT 2 rfl (by kernel_rfl) rfl (fun w h => (h.sub [] rfl)) rfl rfl (Val.sliceTo (m := i) rfl rfl (by omega)) rfl ?_
  refine WA.take 3 rfl (by kernel_rfl) rfl (fun w h => (h.sub [] rfl)) (Val.moveS rfl) rfl ?_
  refine WA.take 4 rfl (by kernel_rfl) rfl (fun w h => (h.sub [] rfl)) (Val.moveI rfl) rfl ?_
  first | refine WA.take 5 rfl (by kernel_rfl) rfl (fun w h => (h.sub [] rfl)) (Val.sliceFrom2 (m := j) rfl rfl (by omega) (by omega)) rfl ?_ | refine WA.takeGT 5 rfl (by kernel_rfl) rfl (fun w h => (h.sub [] rfl)) rfl rfl (Val.sliceFrom2 (m := j) rfl rfl (by omega) (by omega)) rfl ?_
  refine WA.eff1 (i := 6) (by kernel_rfl) rfl rfl ?_
  refine WL.appRoom (ys := (xs.drop j).map vi) (m := xs.length - j) 1 rfl rfl rfl (Rd.own 1 rfl _ _ (fun q u h => by
    rw [List.map_drop, List.getElem?_drop] at h
    have hlt : j + q < xs.length := by
      rcases Nat.lt_or_ge (j + q) xs.length with h' | h'
      · exact h'
      · rw [List.getElem?_eq_none (by rw [List.length_map]; omega)] at h; cases h
    rw [if_neg (by omega), Nat.zero_add, Nat.mul_one]
    exact hcs _ _ h)) hml (all_vi _) (by omega) (by omega) rfl ?_
  refine WL.nSet ?_
  refine WL.nil ?_
  refine WK.anyStep (fun w h => (h.sub [] rfl)) ?_
  refine WA.take 7 rfl (by kernel_rfl) rfl (fun w h => (h.sub [] rfl)) (Val.assignS rfl) rfl ?_
  refine WA.done (by kernel_rfl) ?_
  refine WX.thenC ?_
  refine WC.seq ?_
  refine WC.region ?_
  refine WL.val (Val.moveS rfl) rfl ?_
  refine WL.val (Val.moveS rfl) rfl ?_
  refine WL.val (Val.len rfl) rfl ?_
  refine WL.val (Val.moveI rfl) rfl ?_
  refine WL.val (Val.sliceMid (l := i + (xs.length - j)) (h := xs.length) rfl rfl rfl (by omega) (by omega)) rfl ?_
  rw [if_neg (show ¬ sc = i + (xs.length - j) by omega)]
  refine WL.clearB 1 rfl rfl rfl (by rw [splice_length (by rw [hml]; omega)]; omega) ?_
  refine WL.nSet ?_
  refine WL.nil ?_
  refine WX.thenC ?_
  refine WC.seq ?_
  refine WC.region ?_
  refine WL.val (Val.moveS rfl) rfl ?_
  refine WL.val (Val.assignS rfl) rfl ?_
  refine WL.nil ?_
  refine WX.thenC ?_
  refine WC.ret ?_
  refine WX.slIn (xs := (xs.take i ++ xs.drop j).map vi) (sz := 1) (n := i + (xs.length - j)) (cap := sc) 1 rfl (by rw [splice_length (by rw [List.length_replicate, splice_length (by rw [hml]; omega)]; omega), splice_length (by rw [hml]; omega)]; omega) (by omega) k4 (by
    rw [splice_lo (by omega) (by rw [splice_length (by rw [hml]; omega)]; omega), Nat.mul_one, ← hml, splice_cut (by omega), hp, List.map_append, List.map_take]) ?_
  apply WX.doneP (ks := [0])
  case hres => exact RunRes.r1 rfl (ResIs.tmpS rfl)
  case hI => first | exact Mem.le.refl _ | assumption
  exact ⟨rfl, rfl⟩
end Go.Proofs.Ytfdeckdongonnab

/-
  The library's slices: Replace at []int.
-/

namespace Go.Sl
open Go.Ls
theorem rep2 {C ys zs : List Value} {i m : Nat} (hm : ys.length = m) (hC : i + m + zs.length ≤ C.length) : (splice (splice C i ys) (i + m) zs).take (i + m + zs.length) = C.take i ++ ys ++ zs := by
  subst hm
  rw [splice_cut (by rw [splice_length (by omega)]; omega), splice_cut (by omega)]
theorem rep1 {C ys zs : List Value} {i m : Nat} (hm : ys.length = m) (hC : i + m + zs.length ≤ C.length) : (splice (splice C (i + m) zs) i ys).take (i + m + zs.length) = C.take i ++ ys ++ zs := by
  subst hm
  apply List.ext_getElem?
  intro j
  rw [List.getElem?_take, splice_get (by rw [splice_length (by omega)]; omega), splice_get (by omega)]
  have hti : (C.take i).length = i := by rw [List.length_take]; omega
  by_cases h3 : j < i + ys.length + zs.length
  · rw [if_pos h3]
    by_cases h1 : j < i
    · rw [if_pos h1, if_pos (by omega), List.append_assoc, List.getElem?_append_left (by omega), List.getElem?_take, if_pos h1]
    · rw [if_neg h1]
      by_cases h2 : j < i + ys.length
      · rw [if_pos h2, List.getElem?_append_left (by rw [List.length_append]; omega), List.getElem?_append_right (by omega), hti]
      · rw [if_neg h2, if_neg h2, if_pos h3, List.getElem?_append_right (by rw [List.length_append]; omega), List.length_append, hti]
  · rw [if_neg h3, List.getElem?_eq_none (by simp only [List.length_append]; omega)]
end Go.Sl
namespace Go.Proofs.Ytfdeckdongonnab
open Go.Sl Go.Ls Go.Tr
set_option maxRecDepth 100000
set_option maxHeartbeats 4000000
set_option linter.unusedVariables false
attribute [local irreducible] WC WL WX WK WA WAK Val Ctr RunRes ResIs Rd At sl box pt Exit.then Exit.inBlock bodyPost Code.wp wpList
theorem sReplace (xs ys : List Int) (i j : Nat) (s v : Value) (I : Mem) (hij : i ≤ j) (hj : j ≤ xs.length) (hm0 : i = j → 0 < ys.length) (hl : xs.length + ys.length ≤ 1099511627776) :
    Ctr Try.prog 44 [s, vi i, vi j, v] I [sl 3 1 s xs.length (xs.map vi), sl 3 1 v ys.length (ys.map vi)]
      (fun r I' L' => I' = I ∧ L' = [sl 3 1 r (i + ys.length + (xs.length - j)) ((xs.take i ++ ys ++ xs.drop j).map vi), sl 3 1 v ys.length (ys.map vi)]) := by
  refine Ctr.intro Try.func44 rfl rfl rfl fun E F => ?_
  refine WC.slOpen 1 rfl fun sa sc hs hsg hsc => ?_
  subst hs
  refine WC.slOpen 2 rfl fun va vc hv hvg hvc => ?_
  subst hv
  refine WC.seq ?_
  refine WC.region ?_
  refine WL.val (Val.assignS rfl) rfl ?_
  refine WL.nil ?_
  refine WX.thenC ?_
  refine WC.seq ?_
  refine WC.region ?_
  refine WL.val (Val.moveS rfl) rfl ?_
  refine WL.val (Val.moveI rfl) rfl ?_
  refine WL.val (Val.moveI rfl) rfl ?_
  refine WL.val (Val.slice (l := i) (h := j) rfl (.some (e := (i : Int)) rfl (Int.natCast_nonneg i)) (.some (e := (j : Int)) rfl (Int.natCast_nonneg j)) hij (by omega)) rfl ?_
  by_cases hij' : i = j
  · subst hij'
    refine WL.nil ?_
    refine WX.thenC ?_
    refine WC.seq ?_
    refine WC.seq ?_
    refine WC.region ?_
    refine WL.val (Val.moveI rfl) rfl ?_
    refine WL.val (Val.moveI rfl) rfl ?_
    refine WL.val (Val.eql rfl rfl (beq_iff_eq.2 (by omega))) rfl ?_
    refine WL.nil ?_
    refine WX.thenC ?_
    refine WC.condT rfl ?_
    refine WC.seq ?_
    refine WC.region ?_
    refine WL.val (Val.moveS rfl) rfl ?_
    refine WL.val (Val.moveI rfl) rfl ?_
    refine WL.val (Val.moveS rfl) rfl ?_
    refine WL.callP [1, 1] rfl rfl (sInsert xs ys i (.slice sa xs.length sc) (.slice va ys.length vc) _ hj (hm0 rfl) hl) rfl ?_
    rintro r I2 _ hI2 ⟨rfl, rfl⟩
    refine WL.nApp ?_
    refine WL.slOpen 1 rfl fun ra rc hr => ?_
    subst hr
    refine WL.val (Val.assignS rfl) rfl ?_
    refine WL.nil ?_
    refine WX.thenC ?_
    refine WC.ret ?_
    refine WX.thenRet ?_
    apply WX.doneP (ks := [0, 0])
    case hres => exact RunRes.r1 rfl (ResIs.tmpS rfl)
    case hI => first | exact Mem.le.refl _ | assumption
    refine ⟨rfl, ?_⟩
    rw [show xs.length + ys.length = i + ys.length + (xs.length - i) by omega]
  obtain ⟨sg, rfl⟩ := hsg (by omega)
  have hij2 : (i : Int) ≠ j := by omega
  have hml : ((xs.drop j).map vi).length = xs.length - j := by rw [List.length_map, List.length_drop]
  have hyl : (ys.map vi).length = ys.length := by rw [List.length_map]
  by_cases hjn : j = xs.length
  · subst hjn
    refine WL.nil ?_
    refine WX.thenC ?_
    refine WC.seq ?_
    refine WC.seq ?_
    refine WC.region ?_
    refine WL.val (Val.moveI rfl) rfl ?_
    refine WL.val (Val.moveI rfl) rfl ?_
    refine WL.val (Val.eql rfl rfl (beq_eq_false_iff_ne.2 (by omega))) rfl ?_
    refine WL.nil ?_
    refine WX.thenC ?_
    refine WC.condF rfl ?_
    refine WC.skip ?_
    refine WX.thenC ?_
    refine WC.seq ?_
    refine WC.seq ?_
    refine WC.region ?_
    refine WL.val (Val.moveI rfl) rfl ?_
    refine WL.val (Val.moveS rfl) rfl ?_
    refine WL.val (Val.len rfl) rfl ?_
    refine WL.val (Val.eql rfl rfl (beq_iff_eq.2 (by omega))) rfl ?_
    refine WL.nil ?_
    refine WX.thenC ?_
    refine WC.condT rfl ?_
    refine WC.seq ?_
    refine WC.region ?_
    refine WL.val (Val.moveS rfl) rfl ?_
    refine WL.val (Val.moveI rfl) rfl ?_
    refine WL.val (Val.sliceTo (m := i) rfl rfl (by omega)) rfl ?_
    refine WL.val (Val.moveS rfl) rfl ?_
    by_cases hlt : i + ys.length < xs.length
    · refine WL.slOut 1 rfl fun cs k1 k2 k3 k4 => ?_
      refine WL.nSet ?_
      have hp : cs.take i = (xs.map vi).take i := by rw [← k2, List.take_take, Nat.min_eq_left (by omega)]
      refine WL.appRoomSl (ys := ys.map vi) 1 2 rfl rfl rfl rfl hyl (all_vi ys) (by omega) (by omega) rfl ?_
      refine WL.nSet ?_
      refine WL.val (Val.assignS rfl) rfl ?_
      refine WL.nil ?_
      refine WX.thenC ?_
      refine WC.seq ?_
      refine WC.seq ?_
      refine WC.region ?_
      refine WL.val (Val.moveS rfl) rfl ?_
      refine WL.val (Val.len rfl) rfl ?_
      refine WL.val (Val.moveS rfl) rfl ?_
      refine WL.val (Val.len rfl) rfl ?_
      refine WL.val (Val.lss rfl rfl (decide_eq_true (by omega))) rfl ?_
      refine WL.nil ?_
      refine WX.thenC ?_
      refine WC.condT rfl ?_
      refine WC.region ?_
      refine WL.val (Val.moveS rfl) rfl ?_
      refine WL.val (Val.moveS rfl) rfl ?_
      refine WL.val (Val.len rfl) rfl ?_
      refine WL.val (Val.sliceFrom (m := i + ys.length) rfl rfl (by omega) (by omega) (by omega)) rfl ?_
      refine WL.clearB 1 rfl rfl rfl (by rw [splice_length (by rw [hyl]; omega)]; omega) ?_
      refine WL.nSet ?_
      refine WL.nil ?_
      refine WX.thenC ?_
      refine WC.seq ?_
      refine WC.region ?_
      refine WL.val (Val.moveS rfl) rfl ?_
      refine WL.val (Val.assignS rfl) rfl ?_
      refine WL.nil ?_
      refine WX.thenC ?_
      refine WC.ret ?_
      refine WX.thenRet ?_
      refine WX.slIn (xs := (xs.take i ++ ys).map vi) (sz := 1) (n := i + ys.length) (cap := sc) 1 rfl (by rw [splice_length (by rw [List.length_replicate, splice_length (by rw [hyl]; omega)]; omega), splice_length (by rw [hyl]; omega)]; omega) (by omega) k4 (by
        rw [splice_lo (by omega) (by rw [splice_length (by rw [hyl]; omega)]; omega), Nat.mul_one, ← hyl, splice_cut (by omega), hp, List.map_append, List.map_take]) ?_
      apply WX.doneP (ks := [0, 0])
      case hres => exact RunRes.r1 rfl (ResIs.tmpS rfl)
      case hI => first | exact Mem.le.refl _ | assumption
      refine ⟨rfl, ?_⟩
      rw [Nat.sub_self, Nat.add_zero, List.drop_length, List.append_nil]
    obtain ⟨vg, rfl⟩ := hvg (by omega)
    refine WL.slOut 1 rfl fun cs k1 k2 k3 k4 => ?_
    refine WL.nSet ?_
    have hp : cs.take i = (xs.map vi).take i := by rw [← k2, List.take_take, Nat.min_eq_left (by omega)]
    refine WL.slIn (xs := (xs.map vi).take i) (sz := 1) (n := i) (cap := sc) 1 rfl (by omega) (by omega) k4 (by rw [Nat.mul_one]; exact hp) ?_
    refine WL.append 1 rfl rfl rfl (Rd.slN 2 rfl 0 (ys.map vi) (fun q u h => by rw [Nat.zero_add]; exact h)) (by rw [hyl, Nat.mul_one]) (all_vi ys) rfl (by decide) (by omega) (by omega) (by unfold maxLen; omega) rfl fun g cap => ?_
    refine WL.nSet ?_
    refine WL.val (Val.assignS rfl) rfl ?_
    refine WL.nil ?_
    refine WX.thenC ?_
    refine WC.seq ?_
    refine WC.seq ?_
    refine WC.region ?_
    refine WL.val (Val.moveS rfl) rfl ?_
    refine WL.val (Val.len rfl) rfl ?_
    refine WL.val (Val.moveS rfl) rfl ?_
    refine WL.val (Val.len rfl) rfl ?_
    refine WL.val (Val.lss rfl rfl (decide_eq_false (by omega))) rfl ?_
    refine WL.nil ?_
    refine WX.thenC ?_
    refine WC.condF rfl ?_
    refine WC.skip ?_
    refine WX.thenC ?_
    refine WC.seq ?_
    refine WC.region ?_
    refine WL.val (Val.moveS rfl) rfl ?_
    refine WL.val (Val.assignS rfl) rfl ?_
    refine WL.nil ?_
    refine WX.thenC ?_
    refine WC.ret ?_
    refine WX.thenRet ?_
    apply WX.doneP (ks := [0, 0])
    case hres => exact RunRes.r1 rfl (ResIs.tmpS rfl)
    case hI => first | exact Mem.le.refl _ | assumption
    refine ⟨rfl, ?_⟩
    rw [Nat.sub_self, Nat.add_zero, List.drop_length, List.append_nil, List.map_append, List.map_take]
  have hjn2 : (j : Int) ≠ xs.length := by omega
  refine WL.nil ?_
  refine WX.thenC ?_
  refine WC.seq ?_
  refine WC.seq ?_
  refine WC.region ?_
  refine WL.val (Val.moveI rfl) rfl ?_
  refine WL.val (Val.moveI rfl) rfl ?_
  refine WL.val (Val.eql rfl rfl (beq_eq_false_iff_ne.2 (by omega))) rfl ?_
  refine WL.nil ?_
  refine WX.thenC ?_
  refine WC.condF rfl ?_
  refine WC.skip ?_
  refine WX.thenC ?_
  refine WC.seq ?_
  refine WC.seq ?_
  refine WC.region ?_
  refine WL.val (Val.moveI rfl) rfl ?_
  refine WL.val (Val.moveS rfl) rfl ?_
  refine WL.val (Val.len rfl) rfl ?_
  refine WL.val (Val.eql rfl rfl (beq_eq_false_iff_ne.2 (by omega))) rfl ?_
  refine WL.nil ?_
  refine WX.thenC ?_
  refine WC.condF rfl ?_
  refine WC.skip ?_
  refine WX.thenC ?_
  refine WC.seq ?_
  refine WC.drawK 999 I [] rfl (by kernel_rfl) rfl rfl ?_
  refine WA.take 0 rfl (by kernel_rfl) rfl (fun w h => (h.sub [] rfl)) (Val.moveS rfl) rfl ?_
  refine WA.take 1 rfl (by kernel_rfl) rfl (fun w h => (h.sub [] rfl)) (Val.moveI rfl) rfl ?_
  first | refine WA.take 2 rfl (by kernel_rfl) rfl (fun w h => (h.sub [] rfl)) (Val.sliceTo (m := i) rfl rfl (by omega)) rfl ?_ | refine WA.takeGT 2 rfl (by kernel_rfl) rfl (fun w h => (h.sub [] rfl)) rfl rfl (Val.sliceTo (m := i) rfl rfl (by omega)) rfl ?_
  refine WA.take 3 rfl (by kernel_rfl) rfl (fun w h => (h.sub [] rfl)) (Val.len rfl) rfl ?_
  refine WA.take 4 rfl (by kernel_rfl) rfl (fun w h => (h.sub [] rfl)) (Val.moveS rfl) rfl ?_
  refine WA.take 5 rfl (by kernel_rfl) rfl (fun w h => (h.sub [] rfl)) (Val.len rfl) rfl ?_
  refine WA.take 6 rfl (by kernel_rfl) rfl (fun w h => (h.sub [] rfl)) (Val.add rfl rfl (wrap_i64 (by omega) (by omega))) rfl ?_
  refine WA.take 7 rfl (by kernel_rfl) rfl (fun w h => (h.sub [] rfl)) (Val.moveS rfl) rfl ?_
  refine WA.take 8 rfl (by kernel_rfl) rfl (fun w h => (h.sub [] rfl)) (Val.moveI rfl) rfl ?_
  first | refine WA.take 9 rfl (by kernel_rfl) rfl (fun w h => (h.sub [] rfl)) (Val.sliceFrom (m := j) rfl rfl (by omega) (by omega) (by omega)) rfl ?_ | refine WA.takeGT 9 rfl (by kernel_rfl) rfl (fun w h => (h.sub [] rfl)) rfl rfl (Val.sliceFrom (m := j) rfl rfl (by omega) (by omega) (by omega)) rfl ?_
  refine WA.take 10 rfl (by kernel_rfl) rfl (fun w h => (h.sub [] rfl)) (Val.len rfl) rfl ?_
  refine WA.take 11 rfl (by kernel_rfl) rfl (fun w h => (h.sub [] rfl)) (Val.add rfl rfl (wrap_i64 (by omega) (by omega))) rfl ?_
  refine WA.take 12 rfl (by kernel_rfl) rfl (fun w h => (h.sub [] rfl)) (Val.assignI rfl) rfl ?_
  refine WA.done (by kernel_rfl) ?_
  by_cases hroom : sc < i + ys.length + (xs.length - j)
  · skip
    refine WX.thenC ?_
    refine WC.seq ?_
    refine WC.seq ?_
    refine WC.region ?_
    refine WL.val (Val.moveI rfl) rfl ?_
    refine WL.val (Val.moveS rfl) rfl ?_
    refine WL.val (Val.cap rfl) rfl ?_
    refine WL.val (Val.gtr rfl rfl (decide_eq_true (by omega))) rfl ?_
    refine WL.nil ?_
    refine WX.thenC ?_
    refine WC.condT rfl ?_
    refine WC.seq ?_
    refine WC.region ?_
    refine WL.val (Val.moveS rfl) rfl ?_
    refine WL.val (Val.moveI rfl) rfl ?_
    refine WL.val (Val.sliceTo (m := i) rfl rfl (by omega)) rfl ?_
    refine WL.val (Val.moveI rfl) rfl ?_
    refine WL.val (Val.moveI rfl) rfl ?_
    refine WL.val (Val.sub rfl rfl (wrap_i64 (by omega) (by omega))) rfl ?_
    refine WL.slOut 1 rfl fun cs k1 k2 k3 k4 => ?_
    refine WL.nSet ?_
    have hcs : ∀ q u, (xs.map vi)[q]? = some u → cs[q]? = some u := fun q u h => by
      rw [← k2, List.getElem?_take] at h
      split at h
      · exact h
      · cases h
    refine WL.appZeros (q := ys.length + (xs.length - j)) 1 rfl rfl (by show vi _ = vi _; congr 1; omega) (by omega) (by omega) (by omega) (by omega) rfl fun g2 cap2 hc2 hm2 => ?_
    refine WL.nApp ?_
    have hq : i + (ys.length + (xs.length - j)) = i + ys.length + (xs.length - j) := by omega
    rw [hq] at hc2 ⊢
    have hCl : (cs.take i ++ List.replicate (ys.length + (xs.length - j)) (vi 0) ++ List.replicate (cap2 - (i + ys.length + (xs.length - j))) (vi 0)).length = cap2 := by
      simp only [List.length_append, List.length_take, List.length_replicate]; omega
    have hp : (cs.take i ++ List.replicate (ys.length + (xs.length - j)) (vi 0) ++ List.replicate (cap2 - (i + ys.length + (xs.length - j))) (vi 0)).take i = (xs.map vi).take i := by
      rw [List.append_assoc, List.take_append_of_le_length (by rw [List.length_take]; omega), List.take_take, Nat.min_self, ← k2, List.take_take, Nat.min_eq_left (by omega)]
    generalize cs.take i ++ List.replicate (ys.length + (xs.length - j)) (vi 0) ++ List.replicate (cap2 - (i + ys.length + (xs.length - j))) (vi 0) = C at *
    have hfin := rep2 (C := C) (ys := ys.map vi) (zs := (xs.drop j).map vi) (i := i) hyl (by rw [hml]; omega)
    refine WL.val (Val.assignS rfl) rfl ?_
    refine WL.nil ?_
    refine WX.thenC ?_
    refine WC.seq ?_
    refine WC.region ?_
    refine WL.val (Val.moveS rfl) rfl ?_
    refine WL.val (Val.moveI rfl) rfl ?_
    refine WL.val (Val.sliceFrom (m := i) rfl rfl (by omega) (by omega) (by omega)) rfl ?_
    refine WL.val (Val.moveS rfl) rfl ?_
    refine WL.copySl (ys := ys.map vi) 3 2 rfl rfl rfl rfl hyl (by omega) (all_vi ys) (by omega) rfl ?_
    refine WL.nSet ?_
    refine WL.nil ?_
    refine WX.thenC ?_
    refine WC.seq ?_
    refine WC.drawK 999 I [] rfl (by kernel_rfl) rfl rfl ?_
    refine WA.take 0 rfl (by kernel_rfl) rfl (fun w h => (h.sub [] rfl)) (Val.moveS rfl) rfl ?_
    refine WA.take 1 rfl (by kernel_rfl) rfl (fun w h => (h.sub [] rfl)) (Val.moveI rfl) rfl ?_
    refine WA.take 2 rfl (by kernel_rfl) rfl (fun w h => (h.sub [] rfl)) (Val.moveS rfl) rfl ?_
    refine WA.take 3 rfl (by kernel_rfl) rfl (fun w h => (h.sub [] rfl)) (Val.len rfl) rfl ?_
    refine WA.take 4 rfl (by kernel_rfl) rfl (fun w h => (h.sub [] rfl)) (Val.add rfl rfl (wrap_i64 (by omega) (by omega))) rfl ?_
    first | refine WA.take 5 rfl (by kernel_rfl) rfl (fun w h => (h.sub [] rfl)) (Val.sliceFrom (m := i + ys.length) rfl rfl (by omega) (by omega) (by omega)) rfl ?_ | refine WA.takeGT 5 rfl (by kernel_rfl) rfl (fun w h => (h.sub [] rfl)) rfl rfl (Val.sliceFrom (m := i + ys.length) rfl rfl (by omega) (by omega) (by omega)) rfl ?_
    refine WA.take 6 rfl (by kernel_rfl) rfl (fun w h => (h.sub [] rfl)) (Val.moveS rfl) rfl ?_
    refine WA.take 7 rfl (by kernel_rfl) rfl (fun w h => (h.sub [] rfl)) (Val.moveI rfl) rfl ?_
    first | refine WA.take 8 rfl (by kernel_rfl) rfl (fun w h => (h.sub [] rfl)) (Val.sliceFrom (m := j) rfl rfl (by omega) (by omega) (by omega)) rfl ?_ | refine WA.takeGT 8 rfl (by kernel_rfl) rfl (fun w h => (h.sub [] rfl)) rfl rfl (Val.sliceFrom (m := j) rfl rfl (by omega) (by omega) (by omega)) rfl ?_
    refine WA.eff1 (i := 9) (by kernel_rfl) rfl rfl ?_
    refine WL.copyRd (ys := (xs.drop j).map vi) 3 rfl rfl rfl (Rd.own 1 rfl _ _ (fun q u h => by
      rw [List.map_drop, List.getElem?_drop] at h
      rw [Nat.zero_add, Nat.mul_one]
      exact hcs _ _ h)) (by rw [hml]; show _ = min _ _; omega) (all_vi _) (by rw [hml, splice_length (by rw [hyl]; omega)]; omega) rfl ?_
    refine WL.nSet ?_
    refine WL.nil ?_
    refine WK.anyStep (fun w h => (h.sub [] rfl)) ?_
    refine WA.done (by kernel_rfl) ?_
    refine WX.thenC ?_
    refine WC.seq ?_
    refine WC.region ?_
    refine WL.val (Val.moveS rfl) rfl ?_
    refine WL.val (Val.assignS rfl) rfl ?_
    refine WL.nil ?_
    refine WX.thenC ?_
    refine WC.ret ?_
    refine WX.thenRet ?_
    refine WX.slIn (xs := (xs.take i ++ ys ++ xs.drop j).map vi) (sz := 1) (n := i + ys.length + (xs.length - j)) (cap := cap2) 3 rfl (by rw [splice_length (by rw [hml, splice_length (by rw [hyl]; omega)]; omega), splice_length (by rw [hyl]; omega)]; omega) (by omega) hm2 (by
      rw [hml, hp] at hfin
      simp only [Nat.zero_add, Nat.mul_one, List.map_append, List.map_take]
      exact hfin) ?_
    apply WX.doneP (ks := [2, 1])
    case hres => exact RunRes.r1 rfl (ResIs.tmpS rfl)
    case hI => first | exact Mem.le.refl _ | assumption
    exact ⟨rfl, rfl⟩
  · skip
    refine WX.thenC ?_
    refine WC.seq ?_
    refine WC.seq ?_
    refine WC.region ?_
    refine WL.val (Val.moveI rfl) rfl ?_
    refine WL.val (Val.moveS rfl) rfl ?_
    refine WL.val (Val.cap rfl) rfl ?_
    refine WL.val (Val.gtr rfl rfl (decide_eq_false (by omega))) rfl ?_
    refine WL.nil ?_
    refine WX.thenC ?_
    refine WC.condF rfl ?_
    refine WC.skip ?_
    refine WX.thenC ?_
    refine WC.seq ?_
    refine WC.region ?_
    refine WL.val (Val.moveS rfl) rfl ?_
    refine WL.val (Val.moveI rfl) rfl ?_
    refine WL.val (Val.sliceTo (m := i + ys.length + (xs.length - j)) rfl rfl (by omega)) rfl ?_
    by_cases hc : i + ys.length ≤ j
    · skip
      refine WL.val (Val.assignS rfl) rfl ?_
      refine WL.nil ?_
      refine WX.thenC ?_
      refine WC.seq ?_
      refine WC.seq ?_
      refine WC.region ?_
      refine WL.val (Val.moveI rfl) rfl ?_
      refine WL.val (Val.moveS rfl) rfl ?_
      refine WL.val (Val.len rfl) rfl ?_
      refine WL.val (Val.add rfl rfl (wrap_i64 (by omega) (by omega))) rfl ?_
      refine WL.val (Val.moveI rfl) rfl ?_
      refine WL.val (Val.leq rfl rfl (decide_eq_true (by omega))) rfl ?_
      refine WL.nil ?_
      refine WX.thenC ?_
      refine WC.condT rfl ?_
      refine WC.seq ?_
      refine WC.region ?_
      refine WL.val (Val.moveS rfl) rfl ?_
      refine WL.val (Val.moveI rfl) rfl ?_
      refine WL.val (Val.sliceFrom (m := i) rfl rfl (by omega) (by omega) (by omega)) rfl ?_
      refine WL.val (Val.moveS rfl) rfl ?_
      refine WL.slOut 1 rfl fun cs k1 k2 k3 k4 => ?_
      refine WL.nSet ?_
      have hcs : ∀ q u, (xs.map vi)[q]? = some u → cs[q]? = some u := fun q u h => by
        rw [← k2, List.getElem?_take] at h
        split at h
        · exact h
        · cases h
      have hp : cs.take i = (xs.map vi).take i := by rw [← k2, List.take_take, Nat.min_eq_left (by omega)]
      have hfin := rep2 (C := cs) (ys := ys.map vi) (zs := (xs.drop j).map vi) (i := i) hyl (by rw [hml]; omega)
      refine WL.copySl (ys := ys.map vi) 1 2 rfl rfl rfl rfl hyl (by omega) (all_vi ys) (by omega) rfl ?_
      refine WL.nSet ?_
      refine WL.nil ?_
      refine WX.thenC ?_
      refine WC.seq ?_
      refine WC.drawK 999 I [] rfl (by kernel_rfl) rfl rfl ?_
      refine WA.take 0 rfl (by kernel_rfl) rfl (fun w h => (h.sub [] rfl)) (Val.moveS rfl) rfl ?_
      refine WA.take 1 rfl (by kernel_rfl) rfl (fun w h => (h.sub [] rfl)) (Val.moveI rfl) rfl ?_
      refine WA.take 2 rfl (by kernel_rfl) rfl (fun w h => (h.sub [] rfl)) (Val.moveS rfl) rfl ?_
      refine WA.take 3 rfl (by kernel_rfl) rfl (fun w h => (h.sub [] rfl)) (Val.len rfl) rfl ?_
      refine WA.take 4 rfl (by kernel_rfl) rfl (fun w h => (h.sub [] rfl)) (Val.add rfl rfl (wrap_i64 (by omega) (by omega))) rfl ?_
      first | refine WA.take 5 rfl (by kernel_rfl) rfl (fun w h => (h.sub [] rfl)) (Val.sliceFrom (m := i + ys.length) rfl rfl (by omega) (by omega) (by omega)) rfl ?_ | refine WA.takeGT 5 rfl (by kernel_rfl) rfl (fun w h => (h.sub [] rfl)) rfl rfl (Val.sliceFrom (m := i + ys.length) rfl rfl (by omega) (by omega) (by omega)) rfl ?_
      refine WA.take 6 rfl (by kernel_rfl) rfl (fun w h => (h.sub [] rfl)) (Val.moveS rfl) rfl ?_
      refine WA.take 7 rfl (by kernel_rfl) rfl (fun w h => (h.sub [] rfl)) (Val.moveI rfl) rfl ?_
      first | refine WA.take 8 rfl (by kernel_rfl) rfl (fun w h => (h.sub [] rfl)) (Val.sliceFrom (m := j) rfl rfl (by omega) (by omega) (by omega)) rfl ?_ | refine WA.takeGT 8 rfl (by kernel_rfl) rfl (fun w h => (h.sub [] rfl)) rfl rfl (Val.sliceFrom (m := j) rfl rfl (by omega) (by omega) (by omega)) rfl ?_
      refine WA.eff1 (i := 9) (by kernel_rfl) rfl rfl ?_
      refine WL.copyRd (ys := (xs.drop j).map vi) 1 rfl rfl rfl (Rd.own 1 rfl _ _ (fun q u h => by
        rw [List.map_drop, List.getElem?_drop] at h
        rw [splice_get (by omega), if_neg (by omega), if_neg (by rw [hyl]; omega), Nat.zero_add, Nat.mul_one]
        exact hcs _ _ h)) (by rw [hml]; show _ = min _ _; omega) (all_vi _) (by rw [hml, splice_length (by rw [hyl]; omega)]; omega) rfl ?_
      refine WL.nSet ?_
      refine WL.nil ?_
      refine WK.anyStep (fun w h => (h.sub [] rfl)) ?_
      refine WA.done (by kernel_rfl) ?_
      refine WX.thenC ?_
      refine WC.seq ?_
      refine WC.region ?_
      refine WL.val (Val.moveS rfl) rfl ?_
      refine WL.val (Val.moveI rfl) rfl ?_
      refine WL.val (Val.sliceFrom2 (m := i + ys.length + (xs.length - j)) rfl rfl (by omega) (by omega)) rfl ?_
      have hL1 : (splice cs (0 + i * 1) (ys.map vi)).length = sc := by rw [splice_length (by rw [hyl]; omega)]; omega
      have hL2 : (splice (splice cs (0 + i * 1) (ys.map vi)) (0 + (i + ys.length) * 1) ((xs.drop j).map vi)).length = sc := by rw [splice_length (by rw [hml, hL1]; omega), hL1]
      refine WL.clearB 1 rfl rfl rfl (by rw [hL2]; split <;> omega) ?_
      refine WL.nSet ?_
      refine WL.nil ?_
      refine WX.thenC ?_
      refine WC.seq ?_
      refine WC.region ?_
      refine WL.val (Val.moveS rfl) rfl ?_
      refine WL.val (Val.assignS rfl) rfl ?_
      refine WL.nil ?_
      refine WX.thenC ?_
      refine WC.ret ?_
      refine WX.thenRet ?_
      refine WX.slIn (xs := (xs.take i ++ ys ++ xs.drop j).map vi) (sz := 1) (n := i + ys.length + (xs.length - j)) (cap := sc) 1 rfl (by rw [splice_length (by rw [hL2, List.length_replicate]; split <;> omega), hL2]; omega) (by omega) k4 (by
        have hz : (splice (splice (splice cs (0 + i * 1) (ys.map vi)) (0 + (i + ys.length) * 1) ((xs.drop j).map vi)) (if sc = i + ys.length + (xs.length - j) then 0 else 0 + (i + ys.length + (xs.length - j)) * 1) (List.replicate (xs.length - (i + ys.length + (xs.length - j))) (vi 0))).take (i + ys.length + (xs.length - j)) = (splice (splice cs (0 + i * 1) (ys.map vi)) (0 + (i + ys.length) * 1) ((xs.drop j).map vi)).take (i + ys.length + (xs.length - j)) := by
          by_cases h9 : sc = i + ys.length + (xs.length - j)
          · rw [if_pos h9, show xs.length - (i + ys.length + (xs.length - j)) = 0 by omega, List.replicate_zero, splice_nil]
          · rw [if_neg h9, splice_lo (by omega) (by rw [hL2]; omega)]
        rw [hml, hp] at hfin
        refine Eq.trans (congrArg (fun n => List.take n _) (Nat.mul_one _)) (hz.trans ?_)
        simp only [Nat.zero_add, Nat.mul_one, List.map_append, List.map_take]
        exact hfin) ?_
      apply WX.doneP (ks := [0, 0])
      case hres => exact RunRes.r1 rfl (ResIs.tmpS rfl)
      case hI => first | exact Mem.le.refl _ | assumption
      exact ⟨rfl, rfl⟩
    obtain ⟨vg, rfl⟩ := hvg (by omega)
    refine WL.val (Val.assignS rfl) rfl ?_
    refine WL.nil ?_
    refine WX.thenC ?_
    refine WC.seq ?_
    refine WC.seq ?_
    refine WC.region ?_
    refine WL.val (Val.moveI rfl) rfl ?_
    refine WL.val (Val.moveS rfl) rfl ?_
    refine WL.val (Val.len rfl) rfl ?_
    refine WL.val (Val.add rfl rfl (wrap_i64 (by omega) (by omega))) rfl ?_
    refine WL.val (Val.moveI rfl) rfl ?_
    refine WL.val (Val.leq rfl rfl (decide_eq_false (by omega))) rfl ?_
    refine WL.nil ?_
    refine WX.thenC ?_
    refine WC.condF rfl ?_
    refine WC.skip ?_
    refine WX.thenC ?_
    refine WC.seq ?_
    refine WC.seq ?_
    refine WC.region ?_
    refine WL.val (Val.moveS rfl) rfl ?_
    refine WL.val (Val.moveI rfl) rfl ?_
    refine WL.val (Val.moveS rfl) rfl ?_
    refine WL.val (Val.len rfl) rfl ?_
    refine WL.val (Val.add rfl rfl (wrap_i64 (by omega) (by omega))) rfl ?_
    refine WL.val (Val.sliceFrom (m := i + ys.length) rfl rfl (by omega) (by omega) (by omega)) rfl ?_
    refine WL.val (Val.moveS rfl) rfl ?_
    refine WL.slOut 1 rfl fun cs k1 k2 k3 k4 => ?_
    refine WL.nSet ?_
    refine WL.slOut 2 rfl fun ds j1 j2 j3 j4 => ?_
    refine WL.nSet ?_
    have hcs : ∀ q u, (xs.map vi)[q]? = some u → cs[q]? = some u := fun q u h => by
      rw [← k2, List.getElem?_take] at h
      split at h
      · exact h
      · cases h
    have hds : ∀ q u, (ys.map vi)[q]? = some u → ds[q]? = some u := fun q u h => by
      rw [← j2, List.getElem?_take] at h
      split at h
      · exact h
      · cases h
    have hp : cs.take i = (xs.map vi).take i := by rw [← k2, List.take_take, Nat.min_eq_left (by omega)]
    have hfin := rep1 (C := cs) (ys := ys.map vi) (zs := (xs.drop j).map vi) (i := i) hyl (by rw [hml]; omega)
    refine WL.val (Val.overlaps 1 2 rfl rfl rfl rfl rfl (by decide) (by omega)) rfl ?_
    refine WL.val (Val.not rfl) rfl ?_
    refine WL.nil ?_
    refine WX.thenC ?_
    refine WC.condT rfl ?_
    refine WC.seq ?_
    refine WC.drawK 999 I [] rfl (by kernel_rfl) rfl rfl ?_
    refine WA.take 0 rfl (by kernel_rfl) rfl (fun w h => (h.sub [] rfl)) (Val.moveS rfl) rfl ?_
    refine WA.take 1 rfl (by kernel_rfl) rfl (fun w h => (h.sub [] rfl)) (Val.moveI rfl) rfl ?_
    refine WA.take 2 rfl (by kernel_rfl) rfl (fun w h => (h.sub [] rfl)) (Val.moveS rfl) rfl ?_
    refine WA.take 3 rfl (by kernel_rfl) rfl (fun w h => (h.sub [] rfl)) (Val.len rfl) rfl ?_
    refine WA.take 4 rfl (by kernel_rfl) rfl (fun w h => (h.sub [] rfl)) (Val.add rfl rfl (wrap_i64 (by omega) (by omega))) rfl ?_
    first | refine WA.take 5 rfl (by kernel_rfl) rfl (fun w h => (h.sub [] rfl)) (Val.sliceFrom (m := i + ys.length) rfl rfl (by omega) (by omega) (by omega)) rfl ?_ | refine WA.takeGT 5 rfl (by kernel_rfl) rfl (fun w h => (h.sub [] rfl)) rfl rfl (Val.sliceFrom (m := i + ys.length) rfl rfl (by omega) (by omega) (by omega)) rfl ?_
    refine WA.take 6 rfl (by kernel_rfl) rfl (fun w h => (h.sub [] rfl)) (Val.moveS rfl) rfl ?_
    refine WA.take 7 rfl (by kernel_rfl) rfl (fun w h => (h.sub [] rfl)) (Val.moveI rfl) rfl ?_
    first | refine WA.take 8 rfl (by kernel_rfl) rfl (fun w h => (h.sub [] rfl)) (Val.sliceFrom (m := j) rfl rfl (by omega) (by omega) (by omega)) rfl ?_ | refine WA.takeGT 8 rfl (by kernel_rfl) rfl (fun w h => (h.sub [] rfl)) rfl rfl (Val.sliceFrom (m := j) rfl rfl (by omega) (by omega) (by omega)) rfl ?_
    refine WA.eff1 (i := 9) (by kernel_rfl) rfl rfl ?_
    refine WL.copyRd (ys := (xs.drop j).map vi) 1 rfl rfl rfl (Rd.own 1 rfl _ _ (fun q u h => by
      rw [List.map_drop, List.getElem?_drop] at h
      rw [Nat.zero_add, Nat.mul_one]
      exact hcs _ _ h)) (by rw [hml]; show _ = min _ _; omega) (all_vi _) (by rw [hml]; omega) rfl ?_
    refine WL.nSet ?_
    refine WL.nil ?_
    refine WK.anyStep (fun w h => (h.sub [] rfl)) ?_
    refine WA.done (by kernel_rfl) ?_
    refine WX.thenC ?_
    refine WC.seq ?_
    refine WC.region ?_
    refine WL.val (Val.moveS rfl) rfl ?_
    refine WL.val (Val.moveI rfl) rfl ?_
    refine WL.val (Val.sliceFrom (m := i) rfl rfl (by omega) (by omega) (by omega)) rfl ?_
    refine WL.val (Val.moveS rfl) rfl ?_
    refine WL.copyRd (ys := ys.map vi) 1 rfl rfl rfl (Rd.own 2 rfl _ _ (fun q u h => by rw [Nat.zero_add]; exact hds _ _ h)) (by rw [hyl]; show _ = min _ _; omega) (all_vi ys) (by rw [hyl, splice_length (by rw [hml]; omega)]; omega) rfl ?_
    refine WL.nSet ?_
    refine WL.nil ?_
    refine WX.thenC ?_
    refine WC.seq ?_
    refine WC.region ?_
    refine WL.val (Val.moveS rfl) rfl ?_
    refine WL.val (Val.assignS rfl) rfl ?_
    refine WL.nil ?_
    refine WX.thenC ?_
    refine WC.ret ?_
    refine WX.thenRet ?_
    refine WX.slIn (xs := (xs.take i ++ ys ++ xs.drop j).map vi) (sz := 1) (n := i + ys.length + (xs.length - j)) (cap := sc) 1 rfl (by rw [splice_length (by rw [hyl, splice_length (by rw [hml]; omega)]; omega), splice_length (by rw [hml]; omega)]; omega) (by omega) k4 (by
      rw [hml, hp] at hfin
      simp only [Nat.zero_add, Nat.mul_one, List.map_append, List.map_take]
      exact hfin) ?_
    refine WX.slIn (xs := ys.map vi) (sz := 1) (n := ys.length) (cap := vc) 2 rfl j1 j3 j4 j2 ?_
    apply WX.doneP (ks := [0, 0])
    case hres => exact RunRes.r1 rfl (ResIs.tmpS rfl)
    case hI => first | exact Mem.le.refl _ | assumption
    exact ⟨rfl, rfl⟩
end Go.Proofs.Ytfdeckdongonnab

/-
  The library's slices: Clone at []int.
-/

namespace Go.Proofs.Ytfdeckdongonnab
open Go.Sl Go.Ls Go.Tr
set_option maxRecDepth 100000
set_option maxHeartbeats 4000000
set_option linter.unusedVariables false
attribute [local irreducible] WC WL WX WK WA WAK Val Ctr RunRes ResIs Rd At sl box pt Exit.then Exit.inBlock bodyPost Code.wp wpList
theorem sClone (xs : List Int) (s : Value) (I : Mem) (hl : xs.length ≤ 1099511627776) :
    Ctr Try.prog 42 [s] I [sl 3 1 s xs.length (xs.map vi)]
      (fun r I' L' => I' = I ∧ L' = [sl 3 1 s xs.length (xs.map vi), sl 3 1 r xs.length (xs.map vi)]) := by
  refine Ctr.intro Try.func42 rfl rfl rfl fun E F => ?_
  refine WC.slOpen 1 rfl fun sa sc hs hsg hsc => ?_
  subst hs
  cases sa with
  | none =>
    have h0 : xs = [] := by
      cases xs with
      | nil => rfl
      | cons x xs => obtain ⟨g, hg⟩ := hsg (by simp); cases hg
    subst h0
    refine WC.seq ?_
    refine WC.region ?_
    refine WL.val (Val.assignS rfl) rfl ?_
    refine WL.nil ?_
    refine WX.thenC ?_
    refine WC.seq ?_
    refine WC.seq ?_
    refine WC.region ?_
    refine WL.val (Val.moveS rfl) rfl ?_
    refine WL.val (Val.eqlNil rfl) rfl ?_
    refine WL.slNil 3 1 ?_
    refine WL.nApp ?_
    refine WL.nil ?_
    refine WX.thenC ?_
    refine WC.condT rfl ?_
    refine WC.seq ?_
    refine WC.region ?_
    refine WL.val (Val.assignS rfl) rfl ?_
    refine WL.nil ?_
    refine WX.thenC ?_
    refine WC.ret ?_
    refine WX.thenRet ?_
    apply WX.doneP (ks := [0, 0])
    case hres => exact RunRes.r1 rfl (ResIs.tmpS rfl)
    case hI => first | exact Mem.le.refl _ | assumption
    exact ⟨rfl, rfl⟩
  | some a =>
    refine WC.seq ?_
    refine WC.region ?_
    refine WL.val (Val.assignS rfl) rfl ?_
    refine WL.nil ?_
    refine WX.thenC ?_
    refine WC.seq ?_
    refine WC.seq ?_
    refine WC.region ?_
    refine WL.val (Val.moveS rfl) rfl ?_
    refine WL.val (Val.eqlNil rfl) rfl ?_
    refine WL.nil ?_
    refine WX.thenC ?_
    refine WC.condF rfl ?_
    refine WC.skip ?_
    refine WX.thenC ?_
    refine WC.seq ?_
    refine WC.region ?_
    (refine WL.buildSlice (by with_unfolding_all exact rfl) rfl (by with_unfolding_all exact rfl) rfl ?_; intro _)
    refine WL.nApp ?_
    refine WL.val (Val.moveS rfl) rfl ?_
    refine WL.boxSl (e := 3) (sz := 1) (n := 0) (xs := []) 2 rfl rfl (by decide) ?_
    cases xs with
    | nil =>
      refine WL.append0 2 rfl rfl rfl rfl ?_
      refine WL.val (Val.assignS rfl) rfl ?_
      refine WL.nil ?_
      refine WX.thenC ?_
      refine WC.ret ?_
      apply WX.doneP (ks := [0, 0])
      case hres => exact RunRes.r1 rfl (ResIs.tmpS rfl)
      case hI => first | exact Mem.le.refl _ | assumption
      exact ⟨rfl, rfl⟩
    | cons x xs =>
      obtain ⟨g, hg⟩ := hsg (by simp)
      cases hg
      refine WL.append 2 rfl rfl rfl (Rd.slN 1 rfl 0 ((x :: xs).map vi) (fun q u h => by rw [Nat.zero_add]; exact h)) (by rw [List.length_map, Nat.mul_one]) (all_vi _) rfl (by decide) (by simp) (by omega) (by unfold maxLen; omega) rfl fun g cap => ?_
      refine WL.nSet ?_
      refine WL.val (Val.assignS rfl) rfl ?_
      refine WL.nil ?_
      refine WX.thenC ?_
      refine WC.ret ?_
      apply WX.doneP (ks := [0, 0])
      case hres => exact RunRes.r1 rfl (ResIs.tmpS rfl)
      case hI => first | exact Mem.le.refl _ | assumption
      refine ⟨rfl, ?_⟩
      rw [Nat.zero_add]
      rfl
end Go.Proofs.Ytfdeckdongonnab

/-
  Tree, the program's: which kid a place is, where an ID is.
-/

namespace Go.Proofs.Ytfdeckdongonnab
open Go.Sl Go.Ls Go.Tr
set_option maxRecDepth 100000
set_option maxHeartbeats 4000000
set_option linter.unusedVariables false
attribute [local irreducible] WC WL WX WK WA WAK Val Ctr RunRes ResIs Rd At sl box pt Exit.then Exit.inBlock bodyPost Code.wp wpList
theorem mem_take? {α : Type} {l : List α} {a : α} {n k : Nat} (h : k < n) (hk : l[k]? = some a) : a ∈ l.take n :=
  List.mem_of_getElem? (i := k) (by rw [List.getElem?_take, if_pos h]; exact hk)
theorem tIndex (A : Ar) (i p : Nat) (I : Mem) (hA : A.Ok) (hi : i < A.cells.length) (hp : (A.cells[i]).par = (p : Int)) (hpl : p < A.cells.length) :
    Ctr Try.prog 57 [ptr A.b, vi i] I A.hp (Keep I A.hp (PosP i (A.cells[p]).kids)) := by
  have hc := Ar.c2 hi
  rw [hp] at hc
  have hc3 := Ar.c3 hpl
  have hrow := Ar.row hpl
  have hkl := hA.kidl _ (List.getElem_mem hpl)
  refine Ctr.intro Try.func57 rfl rfl rfl fun E F => ?_
  refine WC.rowOpen 5 p rfl hrow fun aa cap hkv hg => ?_
  rw [hkv] at hc3 hrow
  refine WC.seq ?_
  refine WC.region ?_
  refine WL.val (Val.assignI rfl) rfl ?_
  refine WL.nil ?_
  refine WX.thenC ?_
  refine WC.seq ?_
  refine WC.drawK 999 I [1, 1] rfl (by kernel_rfl) rfl rfl ?_
  refine WA.take 0 rfl (by kernel_rfl) rfl (fun w h => (h.sub [1, 1] rfl)) (Val.moveP rfl) rfl ?_
  refine WA.take 1 rfl (by kernel_rfl) rfl (fun w h => (h.sub [1, 1] rfl)) (Val.nilCheckP rfl) rfl ?_
  refine WA.take 2 rfl (by kernel_rfl) rfl (fun w h => (h.sub [1, 1] rfl)) (Val.fldAddr rfl) rfl ?_
  refine WA.take 3 rfl (by kernel_rfl) rfl (fun w h => (h.sub [1, 1] rfl)) (Val.loadS rfl (Rd.own1 0 rfl rfl)) rfl ?_
  refine WA.take 4 rfl (by kernel_rfl) rfl (fun w h => (h.sub [1, 1] rfl)) (Val.moveP rfl) rfl ?_
  refine WA.take 5 rfl (by kernel_rfl) rfl (fun w h => (h.sub [1, 1] rfl)) (Val.nilCheckP rfl) rfl ?_
  refine WA.take 6 rfl (by kernel_rfl) rfl (fun w h => (h.sub [1, 1] rfl)) (Val.fldAddr rfl) rfl ?_
  refine WA.take 7 rfl (by kernel_rfl) rfl (fun w h => (h.sub [1, 1] rfl)) (Val.loadS rfl (Rd.own1 0 rfl rfl)) rfl ?_
  refine WA.take 8 rfl (by kernel_rfl) rfl (fun w h => (h.sub [1, 1] rfl)) (Val.moveI rfl) rfl ?_
  refine WA.take 9 rfl (by kernel_rfl) rfl (fun w h => (h.sub [1, 1] rfl)) (Val.indexAddr rfl rfl (by omega) (by omega)) rfl ?_
  refine WA.take 10 rfl (by kernel_rfl) rfl (fun w h => (h.sub [1, 1] rfl)) (Val.fldAddr rfl) rfl ?_
  first | refine WA.take 11 rfl (by kernel_rfl) rfl (fun w h => (h.sub [1, 1] rfl)) (Val.loadS rfl (Rd.sl1 1 rfl hc)) rfl ?_ | refine WA.takeGT 11 rfl (by kernel_rfl) rfl (fun w h => (h.sub [1, 1] rfl)) rfl rfl (Val.loadS rfl (Rd.sl1 1 rfl hc)) rfl ?_
  refine WA.take 12 rfl (by kernel_rfl) rfl (fun w h => (h.sub [1, 1] rfl)) (Val.indexAddr rfl rfl (by omega) (by omega)) rfl ?_
  refine WA.take 13 rfl (by kernel_rfl) rfl (fun w h => (h.sub [1, 1] rfl)) (Val.fldAddr rfl) rfl ?_
  first | refine WA.take 14 rfl (by kernel_rfl) rfl (fun w h => (h.sub [1, 1] rfl)) (Val.loadS rfl (Rd.sl1 1 rfl hc3)) rfl ?_ | refine WA.takeGT 14 rfl (by kernel_rfl) rfl (fun w h => (h.sub [1, 1] rfl)) rfl rfl (Val.loadS rfl (Rd.sl1 1 rfl hc3)) rfl ?_
  refine WA.take 15 rfl (by kernel_rfl) rfl (fun w h => (h.sub [1, 1] rfl)) (Val.moveI rfl) rfl ?_
  refine WA.eff1 (i := 16) (by kernel_rfl) rfl rfl ?_
  refine WL.callRowK 5 p rfl rfl rfl hrow (sIndex i (A.cells[p]).kids _ _ (by omega)) rfl ?_
  rintro v (⟨k, rfl, h1, h2⟩ | ⟨rfl, h1⟩)
  · skip
    refine WL.nil ?_
    refine WK.anyStep (fun w h => (h.sub [1, 1] rfl)) ?_
    refine WA.take 17 rfl (by kernel_rfl) rfl (fun w h => (h.sub [1, 1] rfl)) (Val.assignI rfl) rfl ?_
    refine WA.done (by kernel_rfl) ?_
    refine WX.thenC ?_
    refine WC.ret ?_
    apply WX.doneP (ks := [0, 0, 0, 0, 0])
    case hres => exact RunRes.r1 rfl (ResIs.tmpI rfl)
    case hI => first | exact Mem.le.refl _ | assumption
    exact ⟨rfl, rfl, .inl ⟨k, rfl, h1, h2⟩⟩
  · skip
    refine WL.nil ?_
    refine WK.anyStep (fun w h => (h.sub [1, 1] rfl)) ?_
    refine WA.take 17 rfl (by kernel_rfl) rfl (fun w h => (h.sub [1, 1] rfl)) (Val.assignI rfl) rfl ?_
    refine WA.done (by kernel_rfl) ?_
    refine WX.thenC ?_
    refine WC.ret ?_
    apply WX.doneP (ks := [0, 0, 0, 0, 0])
    case hres => exact RunRes.r1 rfl (ResIs.tmpI rfl)
    case hI => first | exact Mem.le.refl _ | assumption
    exact ⟨rfl, rfl, .inr ⟨rfl, h1⟩⟩
/-- Where: the parent's ID, and which kid. -/
theorem tWhere (A : Ar) (i : Int) (I : Mem) (hA : A.Ok) (hpar : ∀ n : Nat, A.at_ i = some (n : Int) → n ≠ 0 → ∃ (hn : n < A.cells.length) (p : Nat) (hpl : p < A.cells.length) (k : Nat), (A.cells[n]).par = (p : Int) ∧ (A.cells[p]).kids[k]? = some (n : Int) ∧ (n : Int) ∉ (A.cells[p]).kids.take k) :
    Ctr Try.prog 27 [ptr A.b, vi i] I A.hp (Keep I A.hp fun v =>
      (∃ (n : Nat) (hn : n < A.cells.length) (p : Nat) (hpl : p < A.cells.length) (k : Nat), A.at_ i = some (n : Int) ∧ n ≠ 0 ∧ (A.cells[n]).par = (p : Int) ∧ (A.cells[p]).kids[k]? = some (n : Int) ∧ (n : Int) ∉ (A.cells[p]).kids.take k ∧ v = .tuple #[vi (A.cells[p]).id, vi k, .bool true]) ∨ ((A.at_ i = none ∨ A.at_ i = some 0) ∧ v = .tuple #[vi 0, vi 0, .bool false])) := by
  refine Ctr.intro Try.func27 rfl rfl rfl fun E F => ?_
  refine WC.seq ?_
  refine WC.region ?_
  refine WL.val (Val.assignI rfl) rfl ?_
  refine WL.val (Val.assignI rfl) rfl ?_
  refine WL.val (Val.assignB rfl) rfl ?_
  refine WL.nil ?_
  refine WX.thenC ?_
  refine WC.seq ?_
  refine WC.region ?_
  refine WL.val (Val.moveP rfl) rfl ?_
  refine WL.val (Val.moveI rfl) rfl ?_
  refine WL.callK [1, 1, 1, 1, 1] rfl rfl rfl (tFind A i _) rfl ?_
  rintro _ rfl
  cases hat : A.at_ i with
  | none =>
    refine WL.val (Val.moveT rfl) rfl ?_
    refine WL.val (Val.extractI rfl rfl) rfl ?_
    refine WL.val (Val.extractB rfl rfl) rfl ?_
    refine WL.val (Val.assignI rfl) rfl ?_
    refine WL.val (Val.assignB rfl) rfl ?_
    refine WL.nil ?_
    refine WX.thenC ?_
    refine WC.seq ?_
    refine WC.seq ?_
    refine WC.region ?_
    refine WL.val (Val.moveB rfl) rfl ?_
    refine WL.val (Val.not rfl) rfl ?_
    refine WL.val (Val.moveB rfl) rfl ?_
    refine WL.gF rfl rfl rfl rfl ?_
    refine WL.gF rfl rfl rfl rfl ?_
    refine WL.val (Val.pick rfl) rfl ?_
    refine WL.nil ?_
    refine WX.thenC ?_
    refine WC.condT rfl ?_
    refine WC.seq ?_
    refine WC.region ?_
    refine WL.val (Val.assignI rfl) rfl ?_
    refine WL.val (Val.assignI rfl) rfl ?_
    refine WL.val (Val.assignB rfl) rfl ?_
    refine WL.nil ?_
    refine WX.thenC ?_
    refine WC.ret ?_
    refine WX.thenRet ?_
    apply WX.doneP (ks := [0, 0, 0, 0, 0])
    case hres => exact RunRes.r3 rfl (ResIs.tmpI rfl) (ResIs.tmpI rfl) (ResIs.tmpB rfl)
    case hI => first | exact Mem.le.refl _ | assumption
    exact ⟨rfl, rfl, .inr ⟨.inl rfl, rfl⟩⟩
  | some q =>
    obtain ⟨n, rfl, hn⟩ := hA.at_lt i q hat
    simp only [Option.getD_some, Option.isSome_some]
    by_cases h0 : n = 0
    · subst h0
      refine WL.val (Val.moveT rfl) rfl ?_
      refine WL.val (Val.extractI rfl rfl) rfl ?_
      refine WL.val (Val.extractB rfl rfl) rfl ?_
      refine WL.val (Val.assignI rfl) rfl ?_
      refine WL.val (Val.assignB rfl) rfl ?_
      refine WL.nil ?_
      refine WX.thenC ?_
      refine WC.seq ?_
      refine WC.seq ?_
      refine WC.region ?_
      refine WL.val (Val.moveB rfl) rfl ?_
      refine WL.val (Val.not rfl) rfl ?_
      refine WL.val (Val.moveB rfl) rfl ?_
      refine WL.gT rfl rfl ?_
      refine WL.val (Val.moveI rfl) rfl ?_
      refine WL.gT rfl rfl ?_
      refine WL.val (Val.eql rfl rfl (beq_iff_eq.2 (by omega))) rfl ?_
      refine WL.val (Val.pick rfl) rfl ?_
      refine WL.nil ?_
      refine WX.thenC ?_
      refine WC.condT rfl ?_
      refine WC.seq ?_
      refine WC.region ?_
      refine WL.val (Val.assignI rfl) rfl ?_
      refine WL.val (Val.assignI rfl) rfl ?_
      refine WL.val (Val.assignB rfl) rfl ?_
      refine WL.nil ?_
      refine WX.thenC ?_
      refine WC.ret ?_
      refine WX.thenRet ?_
      apply WX.doneP (ks := [0, 0, 0, 0, 0])
      case hres => exact RunRes.r3 rfl (ResIs.tmpI rfl) (ResIs.tmpI rfl) (ResIs.tmpB rfl)
      case hI => first | exact Mem.le.refl _ | assumption
      exact ⟨rfl, rfl, .inr ⟨.inr rfl, rfl⟩⟩
    obtain ⟨hn', p, hpl, k, e1, e2, e3⟩ := hpar n hat h0
    have h01 : (n : Int) ≠ 0 := by omega
    have hc := Ar.c2 hn
    rw [e1] at hc
    have hc0 := Ar.c0 hpl
    refine WL.val (Val.moveT rfl) rfl ?_
    refine WL.val (Val.extractI rfl rfl) rfl ?_
    refine WL.val (Val.extractB rfl rfl) rfl ?_
    refine WL.val (Val.assignI rfl) rfl ?_
    refine WL.val (Val.assignB rfl) rfl ?_
    refine WL.nil ?_
    refine WX.thenC ?_
    refine WC.seq ?_
    refine WC.seq ?_
    refine WC.region ?_
    refine WL.val (Val.moveB rfl) rfl ?_
    refine WL.val (Val.not rfl) rfl ?_
    refine WL.val (Val.moveB rfl) rfl ?_
    refine WL.gT rfl rfl ?_
    refine WL.val (Val.moveI rfl) rfl ?_
    refine WL.gT rfl rfl ?_
    refine WL.val (Val.eql rfl rfl (beq_eq_false_iff_ne.2 (by omega))) rfl ?_
    refine WL.val (Val.pick rfl) rfl ?_
    refine WL.nil ?_
    refine WX.thenC ?_
    refine WC.condF rfl ?_
    refine WC.skip ?_
    refine WX.thenC ?_
    refine WC.seq ?_
    refine WC.drawK 999 I [1, 1] rfl (by kernel_rfl) rfl rfl ?_
    refine WA.take 0 rfl (by kernel_rfl) rfl (fun w h => (h.sub [1, 1] rfl)) (Val.moveP rfl) rfl ?_
    refine WA.take 1 rfl (by kernel_rfl) rfl (fun w h => (h.sub [1, 1] rfl)) (Val.nilCheckP rfl) rfl ?_
    refine WA.take 2 rfl (by kernel_rfl) rfl (fun w h => (h.sub [1, 1] rfl)) (Val.fldAddr rfl) rfl ?_
    refine WA.take 3 rfl (by kernel_rfl) rfl (fun w h => (h.sub [1, 1] rfl)) (Val.loadS rfl (Rd.own1 0 rfl rfl)) rfl ?_
    refine WA.take 4 rfl (by kernel_rfl) rfl (fun w h => (h.sub [1, 1] rfl)) (Val.moveP rfl) rfl ?_
    refine WA.take 5 rfl (by kernel_rfl) rfl (fun w h => (h.sub [1, 1] rfl)) (Val.nilCheckP rfl) rfl ?_
    refine WA.take 6 rfl (by kernel_rfl) rfl (fun w h => (h.sub [1, 1] rfl)) (Val.fldAddr rfl) rfl ?_
    refine WA.take 7 rfl (by kernel_rfl) rfl (fun w h => (h.sub [1, 1] rfl)) (Val.loadS rfl (Rd.own1 0 rfl rfl)) rfl ?_
    refine WA.take 8 rfl (by kernel_rfl) rfl (fun w h => (h.sub [1, 1] rfl)) (Val.moveI rfl) rfl ?_
    refine WA.take 9 rfl (by kernel_rfl) rfl (fun w h => (h.sub [1, 1] rfl)) (Val.indexAddr rfl rfl (by omega) (by omega)) rfl ?_
    refine WA.take 10 rfl (by kernel_rfl) rfl (fun w h => (h.sub [1, 1] rfl)) (Val.fldAddr rfl) rfl ?_
    first | refine WA.take 11 rfl (by kernel_rfl) rfl (fun w h => (h.sub [1, 1] rfl)) (Val.loadS rfl (Rd.sl1 1 rfl hc)) rfl ?_ | refine WA.takeGT 11 rfl (by kernel_rfl) rfl (fun w h => (h.sub [1, 1] rfl)) rfl rfl (Val.loadS rfl (Rd.sl1 1 rfl hc)) rfl ?_
    refine WA.take 12 rfl (by kernel_rfl) rfl (fun w h => (h.sub [1, 1] rfl)) (Val.indexAddr rfl rfl (by omega) (by omega)) rfl ?_
    refine WA.take 13 rfl (by kernel_rfl) rfl (fun w h => (h.sub [1, 1] rfl)) (Val.fldAddr rfl) rfl ?_
    first | refine WA.take 14 rfl (by kernel_rfl) rfl (fun w h => (h.sub [1, 1] rfl)) (Val.loadS rfl (Rd.sl1 1 rfl hc0)) rfl ?_ | refine WA.takeGT 14 rfl (by kernel_rfl) rfl (fun w h => (h.sub [1, 1] rfl)) rfl rfl (Val.loadS rfl (Rd.sl1 1 rfl hc0)) rfl ?_
    refine WA.take 15 rfl (by kernel_rfl) rfl (fun w h => (h.sub [1, 1] rfl)) (Val.moveP rfl) rfl ?_
    refine WA.take 16 rfl (by kernel_rfl) rfl (fun w h => (h.sub [1, 1] rfl)) (Val.moveI rfl) rfl ?_
    refine WA.eff1 (i := 17) (by kernel_rfl) rfl rfl ?_
    refine WL.callK [1, 1, 1, 1, 1] rfl rfl rfl (tIndex A n p _ hA hn e1 hpl) rfl ?_
    rintro v (⟨k', rfl, h1, h2⟩ | ⟨rfl, h1⟩)
    · have hk : k' = k := by
        rcases Nat.lt_trichotomy k' k with q | q | q
        · exact absurd (mem_take? q h1) e3
        · exact q
        · exact absurd (mem_take? q e2) h2
      subst hk
      refine WL.nil ?_
      refine WK.anyStep (fun w h => (h.sub [1, 1] rfl)) ?_
      refine WA.take 18 rfl (by kernel_rfl) rfl (fun w h => (h.sub [1, 1] rfl)) (Val.assignI rfl) rfl ?_
      refine WA.take 19 rfl (by kernel_rfl) rfl (fun w h => (h.sub [1, 1] rfl)) (Val.assignI rfl) rfl ?_
      refine WA.take 20 rfl (by kernel_rfl) rfl (fun w h => (h.sub [1, 1] rfl)) (Val.assignB rfl) rfl ?_
      refine WA.done (by kernel_rfl) ?_
      refine WX.thenC ?_
      refine WC.ret ?_
      apply WX.doneP (ks := [0, 0, 0, 0, 0])
      case hres => exact RunRes.r3 rfl (ResIs.tmpI rfl) (ResIs.tmpI rfl) (ResIs.tmpB rfl)
      case hI => first | exact Mem.le.refl _ | assumption
      exact ⟨rfl, rfl, .inl ⟨n, hn, p, hpl, k', rfl, h0, e1, e2, e3, rfl⟩⟩
    · exact absurd (List.mem_of_getElem? e2) h1
end Go.Proofs.Ytfdeckdongonnab

/-
  Tree, the program's: a place is cut off.
-/

namespace Go.Tr
open Go.Sl Go.Ls
/-- Another list of kids. -/
def Ar.setKids (A : Ar) (p : Nat) (ks : List Int) (kv : Value) : Ar := { A with cells := A.cells.modify p fun c => { c with kids := ks, kv := kv } }
theorem Ar.setKids_len (A : Ar) (p : Nat) (ks : List Int) (kv : Value) : (A.setKids p ks kv).cells.length = A.cells.length := by simp [Ar.setKids]
theorem modify_set {α : Type} {l : List α} {p : Nat} (hp : p < l.length) (f : α → α) : l.modify p f = l.set p (f l[p]) := by
  apply List.ext_getElem?
  intro j
  rw [List.getElem?_modify, List.getElem?_set]
  by_cases h : p = j
  · subst h; simp [hp]
  · simp [h]
theorem Ar.flat_len (A : Ar) : ∀ c ∈ A.cells.map Cel.cs, c.length = 4 := fun c hc => by
  obtain ⟨x, _, rfl⟩ := List.mem_map.1 hc; rfl
theorem Ar.setKids_flat (A : Ar) (p : Nat) (ks : List Int) (kv : Value) (hp : p < A.cells.length) : (A.setKids p ks kv).flat = splice A.flat (0 + (p : Int).toNat * 4 + 3) [kv] := by
  rw [Nat.zero_add, Int.toNat_natCast, Ar.flat, Ar.flat, flat_splice (by decide) _ A.flat_len p 3 [kv] (by simpa using hp) (by simp)]
  congr 1
  rw [Ar.setKids]
  simp only [modify_set hp, List.map_set, List.getElem_map]
  rfl
theorem Ar.setKids_rows (A : Ar) (p : Nat) (ks : List Int) (kv : Value) (hp : p < A.cells.length) : (A.setKids p ks kv).cells.map Cel.row = (A.cells.map Cel.row).set p (sl 3 1 kv ks.length (ks.map vi)) := by
  rw [Ar.setKids]
  simp only [modify_set hp, List.map_set]
  rfl
theorem Ar.setKids_hp (A : Ar) (p : Nat) (ks : List Int) (kv : Value) (hp : p < A.cells.length) : (A.setKids p ks kv).hp = [box A.b 77 [A.cv, A.fv, .map (some A.mb)], sl 73 4 A.cv A.cells.length (splice A.flat (0 + (p : Int).toNat * 4 + 3) [kv]), sl 3 1 A.fv A.free.length (A.free.map vi), mp A.mb A.look A.cnt, sts ((A.cells.map Cel.row).set p (sl 3 1 kv ks.length (ks.map vi)))] := by
  have h1 := A.setKids_flat p ks kv hp
  have h2 := A.setKids_rows p ks kv hp
  have h3 := A.setKids_len p ks kv
  simp only [Ar.hp, Ar.cv, h1, h2, h3]
  rfl
end Go.Tr
namespace Go.Proofs.Ytfdeckdongonnab
open Go.Sl Go.Ls Go.Tr
set_option maxRecDepth 100000
set_option maxHeartbeats 4000000
set_option linter.unusedVariables false
attribute [local irreducible] WC WL WX WK WA WAK Val Ctr RunRes ResIs Rd At sl box pt Exit.then Exit.inBlock bodyPost Code.wp wpList
theorem tCut (A : Ar) (i p k : Nat) (I : Mem) (hA : A.Ok) (hi : i < A.cells.length) (hp : (A.cells[i]).par = (p : Int)) (hpl : p < A.cells.length) (e2 : (A.cells[p]).kids[k]? = some (i : Int)) (e3 : (i : Int) ∉ (A.cells[p]).kids.take k) :
    Ctr Try.prog 47 [ptr A.b, vi i] I A.hp (fun v I' L' => I' = I ∧ v = vi k ∧ ∃ kv, L' = (A.setKids p ((A.cells[p]).kids.take k ++ (A.cells[p]).kids.drop (k + 1)) kv).hp) := by
  have hc := Ar.c2 hi
  rw [hp] at hc
  have hc3 := Ar.c3 hpl
  have hrow := Ar.row hpl
  have hkl := hA.kidl _ (List.getElem_mem hpl)
  have hkk : k < (A.cells[p]).kids.length := (List.getElem?_eq_some_iff.1 e2).1
  refine Ctr.intro Try.func47 rfl rfl rfl fun E F => ?_
  refine WC.rowOpen 5 p rfl hrow fun aa cap hkv hg => ?_
  rw [hkv] at hc3 hrow
  refine WC.seq ?_
  refine WC.region ?_
  refine WL.val (Val.assignI rfl) rfl ?_
  refine WL.nil ?_
  refine WX.thenC ?_
  refine WC.seq ?_
  refine WC.drawK 999 I [1, 1] rfl (by kernel_rfl) rfl rfl ?_
  refine WA.take 0 rfl (by kernel_rfl) rfl (fun w h => (h.sub [1, 1] rfl)) (Val.moveP rfl) rfl ?_
  refine WA.take 1 rfl (by kernel_rfl) rfl (fun w h => (h.sub [1, 1] rfl)) (Val.nilCheckP rfl) rfl ?_
  refine WA.take 2 rfl (by kernel_rfl) rfl (fun w h => (h.sub [1, 1] rfl)) (Val.fldAddr rfl) rfl ?_
  refine WA.take 3 rfl (by kernel_rfl) rfl (fun w h => (h.sub [1, 1] rfl)) (Val.loadS rfl (Rd.own1 0 rfl rfl)) rfl ?_
  refine WA.take 4 rfl (by kernel_rfl) rfl (fun w h => (h.sub [1, 1] rfl)) (Val.moveP rfl) rfl ?_
  refine WA.take 5 rfl (by kernel_rfl) rfl (fun w h => (h.sub [1, 1] rfl)) (Val.nilCheckP rfl) rfl ?_
  refine WA.take 6 rfl (by kernel_rfl) rfl (fun w h => (h.sub [1, 1] rfl)) (Val.fldAddr rfl) rfl ?_
  refine WA.take 7 rfl (by kernel_rfl) rfl (fun w h => (h.sub [1, 1] rfl)) (Val.loadS rfl (Rd.own1 0 rfl rfl)) rfl ?_
  refine WA.take 8 rfl (by kernel_rfl) rfl (fun w h => (h.sub [1, 1] rfl)) (Val.moveI rfl) rfl ?_
  refine WA.take 9 rfl (by kernel_rfl) rfl (fun w h => (h.sub [1, 1] rfl)) (Val.indexAddr rfl rfl (by omega) (by omega)) rfl ?_
  refine WA.take 10 rfl (by kernel_rfl) rfl (fun w h => (h.sub [1, 1] rfl)) (Val.fldAddr rfl) rfl ?_
  first | refine WA.take 11 rfl (by kernel_rfl) rfl (fun w h => (h.sub [1, 1] rfl)) (Val.loadS rfl (Rd.sl1 1 rfl hc)) rfl ?_ | refine WA.takeGT 11 rfl (by kernel_rfl) rfl (fun w h => (h.sub [1, 1] rfl)) rfl rfl (Val.loadS rfl (Rd.sl1 1 rfl hc)) rfl ?_
  refine WA.take 12 rfl (by kernel_rfl) rfl (fun w h => (h.sub [1, 1] rfl)) (Val.indexAddr rfl rfl (by omega) (by omega)) rfl ?_
  refine WA.take 13 rfl (by kernel_rfl) rfl (fun w h => (h.sub [1, 1] rfl)) (Val.assignP rfl) rfl ?_
  refine WA.done (by kernel_rfl) ?_
  refine WX.thenC ?_
  refine WC.seq ?_
  refine WC.region ?_
  refine WL.val (Val.moveP rfl) rfl ?_
  refine WL.val (Val.nilCheckP rfl) rfl ?_
  refine WL.val (Val.fldAddr rfl) rfl ?_
  refine WL.val (Val.loadS rfl (Rd.sl1 2 rfl (by assumption))) rfl ?_
  refine WL.val (Val.moveI rfl) rfl ?_
  refine WL.callRowK 5 p rfl rfl rfl hrow (sIndex i (A.cells[p]).kids _ _ (by omega)) rfl ?_
  rintro v (⟨k', rfl, h1, h2⟩ | ⟨rfl, h1⟩)
  case inr => exact absurd (List.mem_of_getElem? e2) h1
  have hk : k' = k := by
    rcases Nat.lt_trichotomy k' k with q | q | q
    · exact absurd (mem_take? q h1) e3
    · exact q
    · exact absurd (mem_take? q e2) h2
  subst hk
  refine WL.val (Val.assignI rfl) rfl ?_
  refine WL.nil ?_
  refine WX.thenC ?_
  refine WC.seq ?_
  refine WC.region ?_
  refine WL.val (Val.moveP rfl) rfl ?_
  refine WL.val (Val.moveP rfl) rfl ?_
  refine WL.val (Val.nilCheckP rfl) rfl ?_
  refine WL.val (Val.fldAddr rfl) rfl ?_
  refine WL.val (Val.loadS rfl (Rd.sl1 2 rfl (by assumption))) rfl ?_
  refine WL.val (Val.moveI rfl) rfl ?_
  refine WL.val (Val.moveI rfl) rfl ?_
  refine WL.val (Val.add rfl rfl (wrap_i64 (by omega) (by omega))) rfl ?_
  refine WL.callRow 5 p rfl rfl rfl hrow (sDelete (A.cells[p]).kids k' (k' + 1) _ _ (by omega) (by omega) (by omega)) rfl ?_ (fun v I' L' h => ⟨_, h.2⟩)
  rintro r I2 q hI2 ⟨rfl, hq⟩
  injection hq with hq
  subst hq
  refine WL.nSet ?_
  refine WL.rowOpen 5 p rfl (List.getElem?_set_self (by simpa using hpl)) fun ra rc hr _ => ?_
  subst hr
  refine WL.val (Val.nilCheckP rfl) rfl ?_
  refine WL.val (Val.fldAddr rfl) rfl ?_
  refine WL.storeSl 2 rfl rfl rfl rfl (by show 0 + (p : Int).toNat * 4 + 3 + 1 ≤ A.cells.length * 4; rw [Int.toNat_natCast]; omega) ?_
  refine WL.nSet ?_
  refine WL.nil ?_
  refine WX.thenC ?_
  refine WC.seq ?_
  refine WC.region ?_
  refine WL.val (Val.moveI rfl) rfl ?_
  refine WL.val (Val.assignI rfl) rfl ?_
  refine WL.nil ?_
  refine WX.thenC ?_
  refine WC.ret ?_
  apply WX.doneP (ks := [0, 0, 0, 0, 0])
  case hres => exact RunRes.r1 rfl (ResIs.tmpI rfl)
  case hI => first | exact Mem.le.refl _ | assumption
  refine ⟨rfl, rfl, .slice ra (k' + ((A.cells[p]).kids.length - (k' + 1))) rc, ?_⟩
  rw [Ar.setKids_hp _ _ _ _ hpl]
  have hlen : ((A.cells[p]).kids.take k' ++ (A.cells[p]).kids.drop (k' + 1)).length = k' + ((A.cells[p]).kids.length - (k' + 1)) := by
    rw [List.length_append, List.length_take, List.length_drop]; omega
  rw [hlen]
  rfl
end Go.Proofs.Ytfdeckdongonnab

/-
  Tree, the program's: New.
-/

namespace Go.Tr
open Go.Sl Go.Ls
def rootCel : Cel := { id := 0, grp := true, par := -1, kids := [], kv := .slice none 0 0 }
/-- A new tree's arena. -/
def Ar.fresh (b mb cg : Nat) : Ar := { b := b, mb := mb, cg := cg, cc := 1, cells := [rootCel], fv := .slice none 0 0, free := [], at_ := fun k => if k = 0 then some 0 else none, cnt := 1 }
theorem Sat.single {E : Ev} {w : World} {I : Mem} {L : List HP} {p : HP} (h : Sat E w I (p :: L)) : Sat E w I (sts [p] :: L) := h.imp fun m hm => sts_fold (l := [p]) hm
theorem Ar.fresh_look (b mb cg : Nat) : (Ar.fresh b mb cg).look = Sl.put (fun _ => none) 0 (vi 0) := by
  funext k
  by_cases h : k = 0
  · subst h; rfl
  · simp [Ar.look, Ar.fresh, Sl.put, h]
end Go.Tr
namespace Go.Proofs.Ytfdeckdongonnab
open Go.Sl Go.Ls Go.Tr
set_option maxRecDepth 100000
set_option maxHeartbeats 4000000
set_option linter.unusedVariables false
attribute [local irreducible] WC WL WX WK WA WAK Val Ctr RunRes ResIs Rd At sl box pt Exit.then Exit.inBlock bodyPost Code.wp wpList
theorem tNew (I : Mem) : Ctr Try.prog 9 [] I [] (fun v I' L' => I' = I ∧ ∃ b mb cg, v = ptr b ∧ L' = (Ar.fresh b mb cg).hp) := by
  refine Ctr.intro Try.func9 rfl rfl rfl fun E F => ?_
  refine WC.seq ?_
  refine WC.region ?_
  refine WL.val (Val.assignP rfl) rfl ?_
  refine WL.nil ?_
  refine WX.thenC ?_
  refine WC.seq ?_
  refine WC.region ?_
  refine WL.val (Val.build (cs := [vi 0, .bool true, vi (-1), .slice none 0 0]) rfl) rfl ?_
  (refine WL.buildSlice (by with_unfolding_all exact rfl) rfl (by with_unfolding_all exact rfl) rfl ?_; intro _)
  refine WL.nApp ?_
  rename_i cg
  refine WL.makeMap rfl fun mb => ?_
  refine WL.nApp ?_
  refine WL.insert (i := 0) 2 rfl rfl rfl ?_
  refine WL.nSet ?_
  refine WL.val Val.move rfl ?_
  refine WL.val (Val.build (cs := [.slice (some ⟨cg, 0, none⟩) 1 1, .slice none 0 0, .map (some mb)]) rfl) rfl ?_
  (refine WL.boxA rfl rfl ?_; intro _)
  refine WL.nApp ?_
  refine WL.val (Val.assignP rfl) rfl ?_
  refine WL.nil ?_
  refine WX.thenC ?_
  refine WC.ret ?_
  rename_i g
  have e : (Ar.fresh g mb cg).hp = [box g 77 [.slice (some ⟨cg, 0, none⟩) 1 1, .slice none 0 0, .map (some mb)], sl 73 4 (.slice (some ⟨cg, 0, none⟩) 1 1) 1 (Cel.cs rootCel), sl 3 1 (.slice none 0 0) 0 [], mp mb (Sl.put (fun _ => none) 0 (vi 0)) 1, sts [sl 3 1 (.slice none 0 0) 0 []]] := by
    simp only [Ar.hp]
    rw [Ar.fresh_look]
    rfl
  refine WX.conv (L' := F :: (Ar.fresh g mb cg).hp) (fun w h => ?_) ?_
  · rw [e]
    have h1 : Sat E w I [F, box cg 73 (Cel.cs rootCel), mp mb (Sl.put (fun _ => none) 0 (vi 0)) 1, box g 77 [.slice (some ⟨cg, 0, none⟩) 1 1, .slice none 0 0, .map (some mb)]] := h
    have h2 := ((h1.perm (pull 1 _ _ rfl)).box_sl (n := 1) (sz := 4) rfl (by decide))
    have h3 := Sat.sl_nil (e := 3) (sz := 1) (Sat.sl_nil (e := 3) (sz := 1) h2)
    exact (Sat.single h3).sub [3, 4, 2, 1, 1, 0] rfl
  apply WX.doneP (ks := [0, 0, 0, 0, 0])
  case hres => exact RunRes.r1 rfl (ResIs.tmpP rfl)
  case hI => first | exact Mem.le.refl _ | assumption
  exact ⟨rfl, g, mb, cg, rfl, rfl⟩
end Go.Proofs.Ytfdeckdongonnab

/-
  Tree, the program's: drop (1): what becomes of the arena.
-/

namespace Go.Tr
open Go.Sl Go.Ls
def zeroCel : Cel := { id := 0, grp := false, par := 0, kids := [], kv := .slice none 0 0 }
/-- One place is free again. -/
def Ar.drop1 (A : Ar) (i : Nat) (fv : Value) : Ar :=
  { A with cells := A.cells.modify i fun _ => zeroCel, fv := fv, free := A.free ++ [(i : Int)], at_ := fun k => if k = ((A.cells[i]?).map Cel.id).getD 0 then none else A.at_ k, cnt := if (A.at_ (((A.cells[i]?).map Cel.id).getD 0)).isSome then A.cnt - 1 else A.cnt }
mutual
/-- The places of a node with all below, the deepest first. -/
def post (A : Ar) : Nat → Nd → List Nat
  | i, .mk _ _ ks => posts A (((A.cells[i]?).map Cel.kids).getD []) ks ++ [i]
def posts (A : Ar) : List Int → List Nd → List Nat
  | k :: l, n :: ns => post A k.toNat n ++ posts A l ns
  | [], _ => []
  | _ :: _, [] => []
end
/-- What drop leaves of the arena: the places that are told are empty, all others as they were. -/
structure Dropped (A A' : Ar) (l : List Nat) : Prop where
  b : A'.b = A.b
  mb : A'.mb = A.mb
  cg : A'.cg = A.cg
  cc : A'.cc = A.cc
  len : A'.cells.length = A.cells.length
  free : A'.free = A.free ++ l.map (fun (n : Nat) => (n : Int))
  out : ∀ j, j ∉ l → A'.cells[j]? = A.cells[j]?
  inn : ∀ j, j ∈ l → j < A.cells.length → A'.cells[j]? = some zeroCel
theorem Dropped.refl (A : Ar) : Dropped A A [] := ⟨rfl, rfl, rfl, rfl, rfl, by simp, fun _ _ => rfl, fun _ h => by simp at h⟩
theorem Dropped.one (A : Ar) (i : Nat) (fv : Value) : Dropped A (A.drop1 i fv) [i] := by
  refine ⟨rfl, rfl, rfl, rfl, by simp [Ar.drop1], rfl, fun j hj => ?_, fun j hj hl => ?_⟩
  · have : i ≠ j := fun e => hj (by simp [e])
    simp [Ar.drop1, List.getElem?_modify, this]
  · have : i = j := (List.mem_singleton.1 hj).symm
    subst this
    simp [Ar.drop1, List.getElem?_modify, hl]
theorem Dropped.trans {A B C : Ar} {l r : List Nat} (h : Dropped A B l) (k : Dropped B C r) : Dropped A C (l ++ r) := by
  refine ⟨k.b.trans h.b, k.mb.trans h.mb, k.cg.trans h.cg, k.cc.trans h.cc, k.len.trans h.len, by rw [k.free, h.free, List.map_append, List.append_assoc], fun j hj => ?_, fun j hj hl => ?_⟩
  · rw [k.out j (fun h' => hj (List.mem_append.2 (.inr h'))), h.out j (fun h' => hj (List.mem_append.2 (.inl h')))]
  · by_cases hr : j ∈ r
    · exact k.inn j hr (by rw [h.len]; exact hl)
    · rw [k.out j hr]
      exact h.inn j ((List.mem_append.1 hj).resolve_right hr) hl
/-- A node's cells as they were: the node as it was. -/
theorem Tr.keep {A A' : Ar} (nd : Nd) : ∀ (p : Int) (i : Nat), Tr A p i nd → (∀ j ∈ post A i nd, A'.cells[j]? = A.cells[j]?) → Tr A' p i nd ∧ post A' i nd = post A i nd := by
  refine Nd.rec (motive_1 := fun nd => ∀ (p : Int) (i : Nat), Tr A p i nd → (∀ j ∈ post A i nd, A'.cells[j]? = A.cells[j]?) → Tr A' p i nd ∧ post A' i nd = post A i nd)
    (motive_2 := fun ns => ∀ (p : Int) (l : List Int), Trs A p l ns → (∀ j ∈ posts A l ns, A'.cells[j]? = A.cells[j]?) → Trs A' p l ns ∧ posts A' l ns = posts A l ns) ?_ ?_ ?_ nd
  · intro id g ks ih p i ht hk
    rw [Tr] at ht
    obtain ⟨hi, h1, h2, h3, h4⟩ := ht
    have hii : A'.cells[i]? = A.cells[i]? := hk i (by rw [post]; simp)
    have hi' : i < A'.cells.length := by
      rcases Nat.lt_or_ge i A'.cells.length with h | h
      · exact h
      · rw [List.getElem?_eq_none h, List.getElem?_eq_getElem hi] at hii; cases hii
    have he : A'.cells[i] = A.cells[i] := by
      rw [List.getElem?_eq_getElem hi, List.getElem?_eq_getElem hi'] at hii; injection hii
    have hq : ((A.cells[i]?).map Cel.kids).getD [] = (A.cells[i]).kids := by rw [List.getElem?_eq_getElem hi]; rfl
    obtain ⟨h5, h6⟩ := ih (i : Int) (A.cells[i]).kids h4 (fun j hj => hk j (by rw [post, hq]; exact List.mem_append.2 (.inl hj)))
    refine ⟨?_, ?_⟩
    · rw [Tr]; exact ⟨hi', by rw [he]; exact h1, by rw [he]; exact h2, by rw [he]; exact h3, by rw [he]; exact h5⟩
    · rw [post, post, hii, hq, h6]
  · intro p l ht hk
    cases l with
    | nil => exact ⟨by rw [Trs]; trivial, by simp [posts]⟩
    | cons k l => rw [Trs] at ht; exact ht.elim
  · intro n ns h1 h2 p l ht hk
    cases l with
    | nil => rw [Trs] at ht; exact ht.elim
    | cons k l =>
      rw [Trs] at ht
      obtain ⟨⟨q, rfl, ht1⟩, ht2⟩ := ht
      rw [posts, Int.toNat_natCast] at hk
      obtain ⟨a1, a2⟩ := h1 p q ht1 (fun j hj => hk j (List.mem_append.2 (.inl hj)))
      obtain ⟨b1, b2⟩ := h2 p l ht2 (fun j hj => hk j (List.mem_append.2 (.inr hj)))
      exact ⟨by rw [Trs]; exact ⟨⟨q, rfl, a1⟩, b1⟩, by rw [posts, posts, Int.toNat_natCast, a2, b2]⟩
end Go.Tr
