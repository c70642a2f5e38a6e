/-
  Tree, the program's: Unwrap.
-/
import Derived.Test.YtfdeckdongonnabM6
import Derived.Test.YtfdeckdongonnabB3
import Derived.Test.YtfdeckdongonnabB2
namespace Go.Tr
open Go.Sl Go.Ls
theorem setPars_id (l : List Int) (hl : ∀ x ∈ l, ∃ q : Nat, x = (q : Int)) (A : Ar) (p : Int) (j : Nat) : (A.setPars l p).idAt j = A.idAt j := by
  rw [Ar.idAt, Ar.idAt, setPars_get l hl]
  split
  · cases A.cells[j]? <;> rfl
  · rfl
end Go.Tr
namespace Go.Proofs.Ytfdeckdongonnab
open Go.Sl Go.Ls Go.Tr
set_option maxRecDepth 100000
set_option maxHeartbeats 8000000
set_option linter.unusedVariables false
attribute [local irreducible] WC WL WX WK WA WAK Val Ctr RunRes ResIs Rd At sl box pt Exit.then Exit.inBlock bodyPost Code.wp wpList
/-- A turned tree, and four numbers. -/
def RetAU (A : Ar) (r : Nd × Int × Int × Int × Int) : Value → Mem → List HP → Prop := fun v I' L' => I' = I' ∧ ∃ B, v = .tuple #[vi r.2.1, vi r.2.2.1, vi r.2.2.2.1, vi r.2.2.2.2] ∧ B.b = A.b ∧ L' = B.hp ∧ Abs B r.1
theorem tUnwrap (A : Ar) (top : Nd) (hA : Abs A top) (i : Int) (I : Mem) :
    Ctr Try.prog 25 [ptr A.b, vi i] I A.hp (RetAU A (Nd.unwrap top i)) := by
  have hsle := hA.size_le
  have hcap := hA.cap
  refine Ctr.intro Try.func25 rfl rfl rfl fun E F => ?_
  refine WC.seq ?_
  refine WC.region ?_
  refine WL.val (Val.assignI rfl) rfl ?_
  refine WL.val (Val.assignI rfl) rfl ?_
  refine WL.val (Val.assignI rfl) rfl ?_
  refine WL.val (Val.assignI rfl) rfl ?_
  refine WL.nil ?_
  refine WX.thenC ?_
  refine WC.seq ?_
  refine WC.region ?_
  refine WL.val (Val.moveP rfl) rfl ?_
  refine WL.val (Val.moveI rfl) rfl ?_
  refine WL.callK [1, 1, 1, 1, 1] rfl rfl rfl (tInner A i _) rfl ?_
  rintro _ rfl
  by_cases h0 : i = 0
  · rw [if_pos h0]
    refine WL.val (Val.moveT rfl) rfl ?_
    refine WL.val (Val.extractI rfl rfl) rfl ?_
    refine WL.val (Val.extractI rfl rfl) rfl ?_
    refine WL.val (Val.assignI rfl) rfl ?_
    refine WL.val (Val.assignI rfl) rfl ?_
    refine WL.nil ?_
    refine WX.thenC ?_
    refine WC.seq ?_
    refine WC.seq ?_
    refine WC.region ?_
    refine WL.val (Val.moveI rfl) rfl ?_
    refine WL.val (Val.eql rfl rfl (beq_eq_false_iff_ne.2 (by omega))) rfl ?_
    refine WL.val (Val.moveB rfl) rfl ?_
    refine WL.gF rfl rfl rfl rfl ?_
    refine WL.gF rfl rfl rfl rfl ?_
    refine WL.gF rfl rfl rfl rfl ?_
    refine WL.gF rfl rfl rfl rfl ?_
    refine WL.gF rfl rfl rfl rfl ?_
    refine WL.gF rfl rfl rfl rfl ?_
    refine WL.gF rfl rfl rfl rfl ?_
    refine WL.gF rfl rfl rfl rfl ?_
    refine WL.gF rfl rfl rfl rfl ?_
    refine WL.val (Val.pick rfl) rfl ?_
    refine WL.nil ?_
    refine WX.thenC ?_
    refine WC.condF rfl ?_
    refine WC.skip ?_
    refine WX.thenC ?_
    refine WC.seq ?_
    refine WC.seq ?_
    refine WC.region ?_
    refine WL.val (Val.moveI rfl) rfl ?_
    refine WL.val (Val.neq rfl rfl (bne_iff_ne.2 (by omega))) rfl ?_
    refine WL.nil ?_
    refine WX.thenC ?_
    refine WC.condT rfl ?_
    refine WC.seq ?_
    refine WC.region ?_
    refine WL.val (Val.moveI rfl) rfl ?_
    refine WL.val (Val.assignI rfl) rfl ?_
    refine WL.val (Val.assignI rfl) rfl ?_
    refine WL.val (Val.assignI rfl) rfl ?_
    refine WL.val (Val.assignI rfl) rfl ?_
    refine WL.nil ?_
    refine WX.thenC ?_
    refine WC.ret ?_
    refine WX.thenRet ?_
    apply WX.doneP (ks := [0, 0, 0, 0, 0])
    case hres => exact RunRes.r4 rfl (ResIs.tmpI rfl) (ResIs.tmpI rfl) (ResIs.tmpI rfl) (ResIs.tmpI rfl)
    case hI => first | exact Mem.le.refl _ | assumption
    rw [Nd.unwrap, Nd.remove, if_pos h0]
    exact ⟨rfl, A, rfl, rfl, rfl, hA⟩
  rw [if_neg h0]
  rcases hA.cases i with ⟨hat, hn⟩ | ⟨q, hat, hq, hid, hm⟩
  · rw [hat]
    simp only
    refine WL.val (Val.moveT rfl) rfl ?_
    refine WL.val (Val.extractI rfl rfl) rfl ?_
    refine WL.val (Val.extractI rfl rfl) rfl ?_
    refine WL.val (Val.assignI rfl) rfl ?_
    refine WL.val (Val.assignI rfl) rfl ?_
    refine WL.nil ?_
    refine WX.thenC ?_
    refine WC.seq ?_
    refine WC.seq ?_
    refine WC.region ?_
    refine WL.val (Val.moveI rfl) rfl ?_
    refine WL.val (Val.eql rfl rfl (beq_eq_false_iff_ne.2 (by omega))) rfl ?_
    refine WL.val (Val.moveB rfl) rfl ?_
    refine WL.gF rfl rfl rfl rfl ?_
    refine WL.gF rfl rfl rfl rfl ?_
    refine WL.gF rfl rfl rfl rfl ?_
    refine WL.gF rfl rfl rfl rfl ?_
    refine WL.gF rfl rfl rfl rfl ?_
    refine WL.gF rfl rfl rfl rfl ?_
    refine WL.gF rfl rfl rfl rfl ?_
    refine WL.gF rfl rfl rfl rfl ?_
    refine WL.gF rfl rfl rfl rfl ?_
    refine WL.val (Val.pick rfl) rfl ?_
    refine WL.nil ?_
    refine WX.thenC ?_
    refine WC.condF rfl ?_
    refine WC.skip ?_
    refine WX.thenC ?_
    refine WC.seq ?_
    refine WC.seq ?_
    refine WC.region ?_
    refine WL.val (Val.moveI rfl) rfl ?_
    refine WL.val (Val.neq rfl rfl (bne_iff_ne.2 (by omega))) rfl ?_
    refine WL.nil ?_
    refine WX.thenC ?_
    refine WC.condT rfl ?_
    refine WC.seq ?_
    refine WC.region ?_
    refine WL.val (Val.moveI rfl) rfl ?_
    refine WL.val (Val.assignI rfl) rfl ?_
    refine WL.val (Val.assignI rfl) rfl ?_
    refine WL.val (Val.assignI rfl) rfl ?_
    refine WL.val (Val.assignI rfl) rfl ?_
    refine WL.nil ?_
    refine WX.thenC ?_
    refine WC.ret ?_
    refine WX.thenRet ?_
    apply WX.doneP (ks := [0, 0, 0, 0, 0])
    case hres => exact RunRes.r4 rfl (ResIs.tmpI rfl) (ResIs.tmpI rfl) (ResIs.tmpI rfl) (ResIs.tmpI rfl)
    case hI => first | exact Mem.le.refl _ | assumption
    rw [Nd.unwrap, Nd.remove, if_neg h0, Nd.find_none _ _ hn]
    exact ⟨rfl, A, rfl, rfl, rfl, hA⟩
  rw [hat]
  simp only
  have hq0 : q ≠ 0 := fun e => h0 (by rw [← hid]; exact (hA.ne0 hq).2 e)
  obtain ⟨y, k, yp, ny, n, R, RO, hk, hlies, f, hkn, htq, hidn, hfind, hwhr, hfy, hrem⟩ := hA.node hq hq0
  rw [hid] at hrem
  have hun : Nd.unwrap top i = (if n.grp = false then (top, 0, 0, 0, 33) else (Nd.with_ ny.id (ny.kids.take k ++ (n.kids ++ ny.kids.drop (k + 1))) top, ny.id, (k : Int), (n.kids.length : Int), 0)) := by
    rw [Nd.unwrap, hrem]
    simp only [hfy, Option.getD_some, Int.toNat_natCast]
    rfl
  rw [hun]
  have hl := hlies
  obtain ⟨hql, hyl, hpar, e2, e3⟩ := hl
  obtain ⟨_, hcid, hcg, _, hks⟩ := htq.ex
  have hlk := hks.len
  have hc := Ar.c2 hql
  rw [hpar] at hc
  have hc1 := Ar.c1 hql
  rw [hcg] at hc1
  have hc3 := Ar.c3 hql
  have hrow := Ar.row hql
  have hkl := hA.ok.kidl _ (List.getElem_mem hql)
  have hky := hA.ok.kidl _ (List.getElem_mem hyl)
  cases hng : n.grp
  · rw [hng] at hc1
    refine WL.val (Val.moveT rfl) rfl ?_
    refine WL.val (Val.extractI rfl rfl) rfl ?_
    refine WL.val (Val.extractI rfl rfl) rfl ?_
    refine WL.val (Val.assignI rfl) rfl ?_
    refine WL.val (Val.assignI rfl) rfl ?_
    refine WL.nil ?_
    refine WX.thenC ?_
    refine WC.seq ?_
    refine WC.seq ?_
    refine WC.region ?_
    refine WL.val (Val.moveI rfl) rfl ?_
    refine WL.val (Val.eql rfl rfl (beq_iff_eq.2 (by omega))) rfl ?_
    refine WL.val (Val.moveB rfl) rfl ?_
    refine WL.gT rfl rfl ?_
    refine WL.val (Val.moveP rfl) rfl ?_
    refine WL.gT rfl rfl ?_
    refine WL.val (Val.nilCheckP rfl) rfl ?_
    refine WL.gT rfl rfl ?_
    refine WL.val (Val.fldAddr rfl) rfl ?_
    refine WL.gT rfl rfl ?_
    refine WL.val (Val.loadS rfl (Rd.own1 1 rfl rfl)) rfl ?_
    refine WL.gT rfl rfl ?_
    refine WL.val (Val.moveI rfl) rfl ?_
    refine WL.gT rfl rfl ?_
    refine WL.val (Val.indexAddr rfl rfl (by omega) (by omega)) rfl ?_
    refine WL.gT rfl rfl ?_
    refine WL.val (Val.fldAddr rfl) rfl ?_
    refine WL.gT rfl rfl ?_
    refine WL.val (Val.loadS rfl (Rd.sl1 2 rfl (by assumption))) rfl ?_
    refine WL.gT rfl rfl ?_
    refine WL.val (Val.not rfl) rfl ?_
    refine WL.val (Val.pick rfl) rfl ?_
    refine WL.nil ?_
    refine WX.thenC ?_
    refine WC.condT rfl ?_
    refine WC.region ?_
    refine WL.val (Val.assignI rfl) rfl ?_
    refine WL.nil ?_
    refine WX.thenC ?_
    refine WC.seq ?_
    refine WC.seq ?_
    refine WC.region ?_
    refine WL.val (Val.moveI rfl) rfl ?_
    refine WL.val (Val.neq rfl rfl (bne_iff_ne.2 (by omega))) rfl ?_
    refine WL.nil ?_
    refine WX.thenC ?_
    refine WC.condT rfl ?_
    refine WC.seq ?_
    refine WC.region ?_
    refine WL.val (Val.moveI rfl) rfl ?_
    refine WL.val (Val.assignI rfl) rfl ?_
    refine WL.val (Val.assignI rfl) rfl ?_
    refine WL.val (Val.assignI rfl) rfl ?_
    refine WL.val (Val.assignI rfl) rfl ?_
    refine WL.nil ?_
    refine WX.thenC ?_
    refine WC.ret ?_
    refine WX.thenRet ?_
    apply WX.doneP (ks := [0, 0, 0, 0, 0])
    case hres => exact RunRes.r4 rfl (ResIs.tmpI rfl) (ResIs.tmpI rfl) (ResIs.tmpI rfl) (ResIs.tmpI rfl)
    case hI => first | exact Mem.le.refl _ | assumption
    exact ⟨rfl, A, rfl, rfl, rfl, hA⟩
  rw [hng] at hc1
  simp only [Bool.true_eq_false, if_false]
  refine WL.rowOpen 5 q rfl hrow fun sa sc hkvq hsg => ?_
  rw [hkvq] at hc3
  refine WL.val (Val.moveT rfl) rfl ?_
  refine WL.val (Val.extractI rfl rfl) rfl ?_
  refine WL.val (Val.extractI rfl rfl) rfl ?_
  refine WL.val (Val.assignI rfl) rfl ?_
  refine WL.val (Val.assignI rfl) rfl ?_
  refine WL.nil ?_
  refine WX.thenC ?_
  refine WC.seq ?_
  refine WC.seq ?_
  refine WC.region ?_
  refine WL.val (Val.moveI rfl) rfl ?_
  refine WL.val (Val.eql rfl rfl (beq_iff_eq.2 (by omega))) rfl ?_
  refine WL.val (Val.moveB rfl) rfl ?_
  refine WL.gT rfl rfl ?_
  refine WL.val (Val.moveP rfl) rfl ?_
  refine WL.gT rfl rfl ?_
  refine WL.val (Val.nilCheckP rfl) rfl ?_
  refine WL.gT rfl rfl ?_
  refine WL.val (Val.fldAddr rfl) rfl ?_
  refine WL.gT rfl rfl ?_
  refine WL.val (Val.loadS rfl (Rd.own1 1 rfl rfl)) rfl ?_
  refine WL.gT rfl rfl ?_
  refine WL.val (Val.moveI rfl) rfl ?_
  refine WL.gT rfl rfl ?_
  refine WL.val (Val.indexAddr rfl rfl (by omega) (by omega)) rfl ?_
  refine WL.gT rfl rfl ?_
  refine WL.val (Val.fldAddr rfl) rfl ?_
  refine WL.gT rfl rfl ?_
  refine WL.val (Val.loadS rfl (Rd.sl1 2 rfl (by assumption))) rfl ?_
  refine WL.gT rfl rfl ?_
  refine WL.val (Val.not rfl) rfl ?_
  refine WL.val (Val.pick rfl) rfl ?_
  refine WL.nil ?_
  refine WX.thenC ?_
  refine WC.condF rfl ?_
  refine WC.skip ?_
  refine WX.thenC ?_
  refine WC.seq ?_
  refine WC.seq ?_
  refine WC.region ?_
  refine WL.val (Val.moveI rfl) rfl ?_
  refine WL.val (Val.neq rfl rfl (bne_eq_false_iff_eq.2 (by omega))) rfl ?_
  refine WL.nil ?_
  refine WX.thenC ?_
  refine WC.condF rfl ?_
  refine WC.skip ?_
  refine WX.thenC ?_
  refine WC.seq ?_
  refine WC.region ?_
  refine WL.val (Val.moveP rfl) rfl ?_
  refine WL.val (Val.nilCheckP rfl) rfl ?_
  refine WL.val (Val.fldAddr rfl) rfl ?_
  refine WL.val (Val.loadS rfl (Rd.own1 1 rfl rfl)) rfl ?_
  refine WL.val (Val.moveI rfl) rfl ?_
  refine WL.val (Val.indexAddr rfl rfl (by omega) (by omega)) rfl ?_
  refine WL.val (Val.fldAddr rfl) rfl ?_
  refine WL.val (Val.loadS rfl (Rd.sl1 2 rfl (by assumption))) rfl ?_
  refine WL.val (Val.assignI rfl) rfl ?_
  refine WL.nil ?_
  refine WX.thenC ?_
  refine WC.seq ?_
  refine WC.region ?_
  refine WL.val (Val.moveP rfl) rfl ?_
  refine WL.val (Val.moveI rfl) rfl ?_
  refine WL.callK [1, 1, 1, 1, 1] rfl rfl rfl (tIndex A q y _ hA.ok hql hpar hyl) rfl ?_
  rintro v (⟨k', rfl, g1, g2⟩ | ⟨rfl, g1⟩)
  case inr => exact absurd (List.mem_of_getElem? e2) g1
  have hkk : k' = k := by
    rcases Nat.lt_trichotomy k' k with q | q | q
    · exact absurd (mem_take? q g1) e3
    · exact q
    · exact absurd (mem_take? q e2) g2
  subst hkk
  have hkly : k' < (A.cells[y]).kids.length := (List.getElem?_eq_some_iff.1 e2).1
  obtain ⟨hqy, hkid, _, _⟩ := hA.unwrap2 hlies f hk hkn htq hq0 hql hyl (.slice none 0 0)
  have hu3 := fun kv => (hA.unwrap2 hlies f hk hkn htq hq0 hql hyl kv).2.2
  have hint : ∀ x ∈ (A.cells[q]).kids, ∃ z : Nat, x = (z : Int) := fun x hx => by obtain ⟨z, e, _⟩ := hkid x hx; exact ⟨z, e⟩
  have hnq : (q : Int) ∉ (A.cells[q]).kids := fun hm => by
    obtain ⟨z, e, _, hne, _⟩ := hkid _ hm
    exact hne (by omega)
  have hny : (y : Int) ∉ (A.cells[q]).kids := fun hm => by
    obtain ⟨z, e, _, _, hne⟩ := hkid _ hm
    exact hne (by omega)
  refine WL.val (Val.assignI rfl) rfl ?_
  refine WL.nil ?_
  refine WX.thenC ?_
  refine WC.seq ?_
  refine WC.region ?_
  refine WL.val (Val.moveP rfl) rfl ?_
  refine WL.val (Val.nilCheckP rfl) rfl ?_
  refine WL.val (Val.fldAddr rfl) rfl ?_
  refine WL.val (Val.loadS rfl (Rd.own1 1 rfl rfl)) rfl ?_
  refine WL.val (Val.moveI rfl) rfl ?_
  refine WL.val (Val.indexAddr rfl rfl (by omega) (by omega)) rfl ?_
  refine WL.val (Val.fldAddr rfl) rfl ?_
  refine WL.val (Val.loadS rfl (Rd.sl1 2 rfl (by assumption))) rfl ?_
  refine WL.val (Val.assignS rfl) rfl ?_
  refine WL.nil ?_
  refine WX.thenC ?_
  refine WC.seq ?_
  refine WC.seq ?_
  refine WC.region ?_
  refine WL.val (Val.moveS rfl) rfl ?_
  refine WL.val (Val.len rfl) rfl ?_
  refine WL.val (Val.moveI rfl) rfl ?_
  refine WL.nil ?_
  refine WX.thenC ?_
  refine WC.block ?_
  refine WC.loop (fun m ρ' I' L' => ∃ j : Nat, m = (A.cells[q]).kids.length - j ∧ j ≤ (A.cells[q]).kids.length ∧ I' = I ∧ ρ' 0 = ptr (A.setPars ((A.cells[q]).kids.take j) y).b ∧ ρ' 5 = vi k' ∧ ρ' 8 = vi q ∧ ρ' 9 = vi y ∧ ρ' 10 = .slice sa (A.cells[q]).kids.length sc ∧ ρ' 54 = .slice sa (A.cells[q]).kids.length sc ∧ ρ' 55 = vi (A.cells[q]).kids.length ∧ ρ' 56 = vi j ∧
      L' = F :: (A.setPars ((A.cells[q]).kids.take j) y).hp)
    (A.cells[q]).kids.length ⟨0, rfl, by omega, rfl, rfl, rfl, rfl, rfl, rfl, rfl, rfl, rfl, rfl⟩ ?_
  rintro m ρ' I' L' ⟨j, rfl, hj, rfl, r0, r5, r8, r9, r10, r54, r55, r56, rfl⟩
  rw [← upd_self r56, ← upd_self r55, ← upd_self r54, ← upd_self r10, ← upd_self r9, ← upd_self r8, ← upd_self r5, ← upd_self r0]
  clear r56 r55 r54 r10 r9 r8 r5 r0
  have hintk : ∀ x ∈ (A.cells[q]).kids.take j, ∃ z : Nat, x = (z : Int) := fun x hm => hint x (List.mem_of_mem_take hm)
  obtain ⟨pb, _, pf, pat, pc, pl⟩ := setPars_same ((A.cells[q]).kids.take j) A (y : Int)
  have hgq : (A.setPars ((A.cells[q]).kids.take j) y).cells[q]? = A.cells[q]? := by rw [setPars_get _ hintk, if_neg (fun hm => hnq (List.mem_of_mem_take hm))]
  have hgy : (A.setPars ((A.cells[q]).kids.take j) y).cells[y]? = A.cells[y]? := by rw [setPars_get _ hintk, if_neg (fun hm => hny (List.mem_of_mem_take hm))]
  have hqD : q < (A.setPars ((A.cells[q]).kids.take j) y).cells.length := by rw [pl]; exact hql
  have hyD : y < (A.setPars ((A.cells[q]).kids.take j) y).cells.length := by rw [pl]; exact hyl
  have heq : (A.setPars ((A.cells[q]).kids.take j) y).cells[q] = A.cells[q] := by
    rw [List.getElem?_eq_getElem hqD, List.getElem?_eq_getElem hql] at hgq; injection hgq
  have hey : (A.setPars ((A.cells[q]).kids.take j) y).cells[y] = A.cells[y] := by
    rw [List.getElem?_eq_getElem hyD, List.getElem?_eq_getElem hyl] at hgy; injection hgy
  have hrowq : ((A.setPars ((A.cells[q]).kids.take j) y).cells.map Cel.row)[q]? = some (sl 3 1 (.slice sa (A.cells[q]).kids.length sc) (A.cells[q]).kids.length ((A.cells[q]).kids.map vi)) := by
    rw [Ar.row hqD, heq, hkvq]
  by_cases hjc : j < (A.cells[q]).kids.length
  · obtain ⟨z, hz, hzl, _, _⟩ := hkid (A.cells[q]).kids[j] (List.getElem_mem hjc)
    have hv : ((A.cells[q]).kids.map vi)[0 + ((j : Nat) : Int).toNat * 1]? = some (vi z) := by
      rw [Nat.zero_add, Int.toNat_natCast, Nat.mul_one, List.getElem?_map, List.getElem?_eq_getElem hjc, hz]; rfl
    have hsnoc : A.setPars ((A.cells[q]).kids.take (j + 1)) y = (A.setPars ((A.cells[q]).kids.take j) y).setPar z y := by
      rw [take1 _ j hjc, setPars_snoc, hz, Int.toNat_natCast]
    have hzD : z < (A.setPars ((A.cells[q]).kids.take j) y).cells.length := by rw [pl]; exact hzl
    have hhp := Ar.setPar_hp (A.setPars ((A.cells[q]).kids.take j) y) z y hzD
    rw [← hsnoc] at hhp
    have hb2 : (A.setPars ((A.cells[q]).kids.take (j + 1)) y).b = (A.setPars ((A.cells[q]).kids.take j) y).b := by rw [hsnoc]; rfl
    generalize A.setPars ((A.cells[q]).kids.take j) (y : Int) = D at *
    obtain ⟨g, rfl⟩ := hsg (by omega)
    refine WC.seq ?_
    refine WC.region ?_
    refine WL.val (Val.lss rfl rfl (decide_eq_true (by omega))) rfl ?_
    refine WL.nil ?_
    refine WX.thenC ?_
    refine WC.seq ?_
    refine WC.condT rfl ?_
    refine WC.skip ?_
    refine WX.thenC ?_
    refine WC.seq ?_
    refine WC.block ?_
    refine WC.seq ?_
    refine WC.region ?_
    refine WL.val (Val.indexAddr rfl rfl (by omega) (by omega)) rfl ?_
    refine WL.val (Val.loadS rfl (Rd.row1 5 q rfl hrowq hv)) rfl ?_
    refine WL.val (Val.assignI rfl) rfl ?_
    refine WL.nil ?_
    refine WX.thenC ?_
    refine WC.region ?_
    refine WL.val (Val.moveP rfl) rfl ?_
    refine WL.val (Val.nilCheckP rfl) rfl ?_
    refine WL.val (Val.fldAddr rfl) rfl ?_
    refine WL.val (Val.loadS rfl (Rd.own1 1 rfl rfl)) rfl ?_
    refine WL.val (Val.moveI rfl) rfl ?_
    refine WL.val (Val.moveI rfl) rfl ?_
    refine WL.val (Val.indexAddr rfl rfl (by omega) (by omega)) rfl ?_
    refine WL.val (Val.fldAddr rfl) rfl ?_
    refine WL.storeSl 2 rfl rfl rfl rfl (by show 0 + (z : Int).toNat * 4 + 2 + 1 ≤ D.cells.length * 4; rw [Int.toNat_natCast]; omega) ?_
    refine WL.nSet ?_
    refine WL.nil ?_
    refine WX.inNormal ?_
    refine WX.thenC ?_
    refine WC.region ?_
    refine WL.val (Val.add rfl rfl (wrap_i64 (by omega) (by omega))) rfl ?_
    refine WL.val (Val.moveI rfl) rfl ?_
    refine WL.nil ?_
    exact WX.thenK (WK.round ((A.cells[q]).kids.length - (j + 1)) (by omega) ⟨j + 1, rfl, by omega, rfl, by rw [hb2]; rfl, rfl, rfl, rfl, rfl, rfl, rfl, rfl, by rw [hhp]; rfl⟩)
  have hfull : (A.cells[q]).kids.take j = (A.cells[q]).kids := List.take_of_length_le (by omega)
  have hDid := setPars_id (A.cells[q]).kids hint A (y : Int)
  have hc3y := Ar.c3 hyD
  have hrowy := Ar.row hyD
  rw [hey] at hc3y hrowy
  simp only [hfull] at pb pf pat pc pl hgq hgy hqD hyD hrowq hc3y hrowy ⊢
  generalize hDD : A.setPars (A.cells[q]).kids (y : Int) = D at *
  refine WC.seq ?_
  refine WC.region ?_
  refine WL.val (Val.lss rfl rfl (decide_eq_false (by omega))) rfl ?_
  refine WL.nil ?_
  refine WX.thenC ?_
  refine WC.seq ?_
  refine WC.condF rfl ?_
  refine WC.exit ?_
  refine WX.thenExit ?_
  refine WX.thenExit ?_
  refine WX.inHit ?_
  refine WX.thenC ?_
  refine WC.seq ?_
  refine WC.rowOpen 5 y rfl hrowy fun rb rd hkvy _ => ?_
  rw [hkvy] at hc3y hrowy
  refine WC.drawK 20 I' [1, 1] rfl (by kernel_rfl) rfl rfl ?_
  refine WA.take 0 rfl (by kernel_rfl) rfl (fun w h => (h.sub [1, 1] rfl)) (Val.moveP rfl) rfl ?_
  refine WA.take 1 rfl (by kernel_rfl) rfl (fun w h => (h.sub [1, 1] rfl)) (Val.nilCheckP rfl) rfl ?_
  refine WA.take 2 rfl (by kernel_rfl) rfl (fun w h => (h.sub [1, 1] rfl)) (Val.fldAddr rfl) rfl ?_
  refine WA.take 3 rfl (by kernel_rfl) rfl (fun w h => (h.sub [1, 1] rfl)) (Val.loadS rfl (Rd.own1 0 rfl rfl)) rfl ?_
  refine WA.take 4 rfl (by kernel_rfl) rfl (fun w h => (h.sub [1, 1] rfl)) (Val.moveI rfl) rfl ?_
  refine WA.take 5 rfl (by kernel_rfl) rfl (fun w h => (h.sub [1, 1] rfl)) (Val.moveP rfl) rfl ?_
  refine WA.take 6 rfl (by kernel_rfl) rfl (fun w h => (h.sub [1, 1] rfl)) (Val.nilCheckP rfl) rfl ?_
  refine WA.take 7 rfl (by kernel_rfl) rfl (fun w h => (h.sub [1, 1] rfl)) (Val.fldAddr rfl) rfl ?_
  refine WA.take 8 rfl (by kernel_rfl) rfl (fun w h => (h.sub [1, 1] rfl)) (Val.loadS rfl (Rd.own1 0 rfl rfl)) rfl ?_
  refine WA.take 9 rfl (by kernel_rfl) rfl (fun w h => (h.sub [1, 1] rfl)) (Val.moveI rfl) rfl ?_
  refine WA.take 10 rfl (by kernel_rfl) rfl (fun w h => (h.sub [1, 1] rfl)) (Val.indexAddr rfl rfl (by omega) (by omega)) rfl ?_
  refine WA.take 11 rfl (by kernel_rfl) rfl (fun w h => (h.sub [1, 1] rfl)) (Val.fldAddr rfl) rfl ?_
  first | refine WA.take 12 rfl (by kernel_rfl) rfl (fun w h => (h.sub [1, 1] rfl)) (Val.loadS rfl (Rd.sl1 1 rfl hc3y)) rfl ?_ | refine WA.takeGT 12 rfl (by kernel_rfl) rfl (fun w h => (h.sub [1, 1] rfl)) rfl rfl (Val.loadS rfl (Rd.sl1 1 rfl hc3y)) rfl ?_
  refine WA.take 13 rfl (by kernel_rfl) rfl (fun w h => (h.sub [1, 1] rfl)) (Val.moveI rfl) rfl ?_
  refine WA.take 14 rfl (by kernel_rfl) rfl (fun w h => (h.sub [1, 1] rfl)) (Val.moveI rfl) rfl ?_
  refine WA.take 15 rfl (by kernel_rfl) rfl (fun w h => (h.sub [1, 1] rfl)) (Val.add rfl rfl (wrap_i64 (by omega) (by omega))) rfl ?_
  refine WA.take 16 rfl (by kernel_rfl) rfl (fun w h => (h.sub [1, 1] rfl)) (Val.moveS rfl) rfl ?_
  refine WA.eff1 (i := 17) (by kernel_rfl) rfl rfl ?_
  have eac : ((k' : Int) + 1) = ((k' + 1 : Nat) : Int) := by omega
  rw [eac]
  have hrowy2 : ((D.cells.map Cel.row).set q (sl 3 1 (.slice none 0 0) 0 []))[y]? = some (sl 3 1 (.slice rb (A.cells[y]).kids.length rd) (A.cells[y]).kids.length ((A.cells[y]).kids.map vi)) := by
    rw [List.getElem?_set_ne hqy]; exact hrowy
  refine WL.rowSwap 3 1 5 q rfl hrowq ?_
  refine WL.rowTake 6 y rfl hrowy2 ?_
  refine WL.callP [0, 0] rfl rfl (sReplace (A.cells[y]).kids (A.cells[q]).kids k' (k' + 1) (.slice rb (A.cells[y]).kids.length rd) (.slice sa (A.cells[q]).kids.length sc) _ (by omega) (by omega) (fun h => by omega) (by omega)) rfl ?_
  rintro rv _ _ hI5 ⟨rfl, rfl⟩
  refine WL.nApp ?_
  have hlen : ((A.cells[y]).kids.take k' ++ (A.cells[q]).kids ++ (A.cells[y]).kids.drop (k' + 1)).length = k' + (A.cells[q]).kids.length + ((A.cells[y]).kids.length - (k' + 1)) := by
    simp only [List.length_append, List.length_take, List.length_drop]; omega
  rw [← hlen]
  refine WL.conv (fun w h => h.sub [6, 0, 0, 0, 0, 0, 0] rfl) ?_
  refine WL.rowPut 5 y rfl (by simpa using hyD) ?_
  refine WL.nSet ?_
  refine WL.rowOpen 5 y rfl (List.getElem?_set_self (by simpa using hyD)) fun ra2 rc2 hr _ => ?_
  subst hr
  refine WL.nil ?_
  refine WK.anyStep (fun w h => (h.sub [1, 1] rfl)) ?_
  refine WA.eff1 (i := 18) (by kernel_rfl) rfl rfl ?_
  refine WL.val (Val.indexAddr rfl rfl (by omega) (by omega)) rfl ?_
  refine WL.nil ?_
  refine WK.anyStep (fun w h => (h.sub [1, 1] rfl)) ?_
  refine WA.eff1 (i := 19) (by kernel_rfl) rfl rfl ?_
  refine WL.val (Val.fldAddr rfl) rfl ?_
  refine WL.nil ?_
  refine WK.anyStep (fun w h => (h.sub [1, 1] rfl)) ?_
  refine WA.eff1 (i := 20) (by kernel_rfl) rfl rfl ?_
  refine WL.storeSl 2 rfl rfl rfl rfl (by show 0 + (y : Int).toNat * 4 + 3 + 1 ≤ D.cells.length * 4; rw [Int.toNat_natCast]; omega) ?_
  refine WL.nSet ?_
  refine WL.nil ?_
  refine WK.anyLast ?_
  refine WA.done (by kernel_rfl) ?_
  refine WX.thenC ?_
  refine WC.seq ?_
  refine WC.region ?_
  refine WL.val (Val.moveP rfl) rfl ?_
  refine WL.val (Val.nilCheckP rfl) rfl ?_
  refine WL.val (Val.fldAddr rfl) rfl ?_
  refine WL.val (Val.loadS rfl (Rd.own1 1 rfl rfl)) rfl ?_
  refine WL.val (Val.moveI rfl) rfl ?_
  refine WL.val (Val.indexAddr rfl rfl (by omega) (by omega)) rfl ?_
  refine WL.val (Val.fldAddr rfl) rfl ?_
  refine WL.storeSl 2 rfl rfl rfl rfl (by show 0 + (q : Int).toNat * 4 + 3 + 1 ≤ D.cells.length * 4; rw [Int.toNat_natCast]; omega) ?_
  refine WL.nSet ?_
  obtain ⟨htH, hAbsC⟩ := hu3 (.slice ra2 ((A.cells[y]).kids.take k' ++ (A.cells[q]).kids ++ (A.cells[y]).kids.drop (k' + 1)).length rc2)
  have hG1 := D.setKids_flat y ((A.cells[y]).kids.take k' ++ (A.cells[q]).kids ++ (A.cells[y]).kids.drop (k' + 1)) (.slice ra2 ((A.cells[y]).kids.take k' ++ (A.cells[q]).kids ++ (A.cells[y]).kids.drop (k' + 1)).length rc2) hyD
  have hG2 := D.setKids_rows y ((A.cells[y]).kids.take k' ++ (A.cells[q]).kids ++ (A.cells[y]).kids.drop (k' + 1)) (.slice ra2 ((A.cells[y]).kids.take k' ++ (A.cells[q]).kids ++ (A.cells[y]).kids.drop (k' + 1)).length rc2) hyD
  have hG3 := D.setKids_len y ((A.cells[y]).kids.take k' ++ (A.cells[q]).kids ++ (A.cells[y]).kids.drop (k' + 1)) (.slice ra2 ((A.cells[y]).kids.take k' ++ (A.cells[q]).kids ++ (A.cells[y]).kids.drop (k' + 1)).length rc2)
  have hG4 := setKids_id D y ((A.cells[y]).kids.take k' ++ (A.cells[q]).kids ++ (A.cells[y]).kids.drop (k' + 1)) (.slice ra2 ((A.cells[y]).kids.take k' ++ (A.cells[q]).kids ++ (A.cells[y]).kids.drop (k' + 1)).length rc2) y
  have hGb : (D.setKids y ((A.cells[y]).kids.take k' ++ (A.cells[q]).kids ++ (A.cells[y]).kids.drop (k' + 1)) (.slice ra2 ((A.cells[y]).kids.take k' ++ (A.cells[q]).kids ++ (A.cells[y]).kids.drop (k' + 1)).length rc2)).b = D.b ∧ (D.setKids y ((A.cells[y]).kids.take k' ++ (A.cells[q]).kids ++ (A.cells[y]).kids.drop (k' + 1)) (.slice ra2 ((A.cells[y]).kids.take k' ++ (A.cells[q]).kids ++ (A.cells[y]).kids.drop (k' + 1)).length rc2)).mb = D.mb ∧
    (D.setKids y ((A.cells[y]).kids.take k' ++ (A.cells[q]).kids ++ (A.cells[y]).kids.drop (k' + 1)) (.slice ra2 ((A.cells[y]).kids.take k' ++ (A.cells[q]).kids ++ (A.cells[y]).kids.drop (k' + 1)).length rc2)).cg = D.cg ∧ (D.setKids y ((A.cells[y]).kids.take k' ++ (A.cells[q]).kids ++ (A.cells[y]).kids.drop (k' + 1)) (.slice ra2 ((A.cells[y]).kids.take k' ++ (A.cells[q]).kids ++ (A.cells[y]).kids.drop (k' + 1)).length rc2)).cc = D.cc ∧
    (D.setKids y ((A.cells[y]).kids.take k' ++ (A.cells[q]).kids ++ (A.cells[y]).kids.drop (k' + 1)) (.slice ra2 ((A.cells[y]).kids.take k' ++ (A.cells[q]).kids ++ (A.cells[y]).kids.drop (k' + 1)).length rc2)).fv = D.fv ∧ (D.setKids y ((A.cells[y]).kids.take k' ++ (A.cells[q]).kids ++ (A.cells[y]).kids.drop (k' + 1)) (.slice ra2 ((A.cells[y]).kids.take k' ++ (A.cells[q]).kids ++ (A.cells[y]).kids.drop (k' + 1)).length rc2)).free = D.free ∧
    (D.setKids y ((A.cells[y]).kids.take k' ++ (A.cells[q]).kids ++ (A.cells[y]).kids.drop (k' + 1)) (.slice ra2 ((A.cells[y]).kids.take k' ++ (A.cells[q]).kids ++ (A.cells[y]).kids.drop (k' + 1)).length rc2)).at_ = D.at_ ∧ (D.setKids y ((A.cells[y]).kids.take k' ++ (A.cells[q]).kids ++ (A.cells[y]).kids.drop (k' + 1)) (.slice ra2 ((A.cells[y]).kids.take k' ++ (A.cells[q]).kids ++ (A.cells[y]).kids.drop (k' + 1)).length rc2)).cnt = D.cnt := ⟨rfl, rfl, rfl, rfl, rfl, rfl, rfl, rfl⟩
  generalize D.setKids y ((A.cells[y]).kids.take k' ++ (A.cells[q]).kids ++ (A.cells[y]).kids.drop (k' + 1)) (.slice ra2 ((A.cells[y]).kids.take k' ++ (A.cells[q]).kids ++ (A.cells[y]).kids.drop (k' + 1)).length rc2) = G at *
  obtain ⟨gb, gmb, gcg, gcc, gfv, gf, ga, gc⟩ := hGb
  have hqG : q < G.cells.length := by rw [hG3]; exact hqD
  have hHhp := Ar.setKids_hp G q [] (.slice none 0 0) hqG
  have hH4 := setKids_id G q [] (.slice none 0 0) y
  have hH3 := Ar.setKids_len G q [] (.slice none 0 0)
  have hHb : (G.setKids q [] (.slice none 0 0)).b = G.b := rfl
  have hHf : (G.setKids q [] (.slice none 0 0)).free = G.free := rfl
  have hHa : (G.setKids q [] (.slice none 0 0)).at_ = G.at_ := rfl
  have hHc : (G.setKids q [] (.slice none 0 0)).cnt = G.cnt := rfl
  have hlook : G.look = D.look := by unfold Ar.look; rw [ga]
  simp only [Ar.cv, gb, gmb, gcg, gcc, gfv, gf, gc, hlook, hG1, hG2, hG3] at hHhp
  rw [List.set_comm _ _ (Ne.symm hqy)] at hHhp
  refine WL.conv (L' := F :: (G.setKids q [] (.slice none 0 0)).hp) (fun w h => by rw [hHhp]; exact h) ?_
  generalize G.setKids q [] (.slice none 0 0) = H at *
  have hHb2 : H.b = D.b := hHb.trans gb
  rw [← hHb2]
  have hHl : H.cells.length = A.cells.length := by rw [hH3, hG3, pl]
  have hHf2 : H.free = A.free := by rw [hHf, gf, pf]
  have hHa2 : H.at_ = A.at_ := by rw [hHa, ga, pat]
  have hHc2 : H.cnt = A.cnt := by rw [hHc, gc, pc]
  have hHy : H.idAt y = ny.id := by rw [hH4, hG4, hDid, f.id]
  have hs1 : (Nd.mk n.id n.grp []).size = 1 := by simp [Nd.size, Nd.sizes]
  have hpost1 : post H q (.mk n.id n.grp []) = [q] := by
    obtain ⟨_, e⟩ := post_eq htH
    have hh := htH.ex
    obtain ⟨_, _, _, _, h5⟩ := hh
    have := List.eq_nil_of_length_eq_zero h5.len
    rw [e, this]; rfl
  refine WL.nil ?_
  refine WX.thenC ?_
  refine WC.seq ?_
  refine WC.region ?_
  refine WL.val (Val.moveP rfl) rfl ?_
  refine WL.val (Val.moveI rfl) rfl ?_
  refine WL.callAll rfl rfl (tDrop _ (.mk n.id n.grp []) (Nat.le_refl _) H y q _ (by omega) (by omega) (by rw [hHf2, hs1]; have := hA.len; omega) htH (by simp [Nd.order, Nd.orders]) (fun x hx => ?_) (by rw [hHc2, hs1, hA.cnt]; have := Nd.size_pos top; omega)) rfl ?_
  · simp only [Nd.order, Nd.orders, List.mem_singleton] at hx
    rw [hHa2, hx, hidn, hid, hat]; rfl
  rintro _ _ _ hI6 ⟨rfl, C, rfl, hC⟩
  have hCl : C.cells.length = A.cells.length := hC.d.len.trans hHl
  have hyC : y < C.cells.length := by rw [hCl]; exact hyl
  have hCy : (C.cells[y]).id = ny.id := by
    rw [← Ar.idAt_eq hyC, Ar.idAt_congr (hC.d.out y (by rw [hpost1, List.mem_singleton]; exact Ne.symm hqy)), hHy]
  have hcC := Ar.c0 hyC
  rw [hCy] at hcC
  have hCb : C.b = H.b := hC.d.b
  rw [← hCb]
  refine WL.nil ?_
  refine WX.thenC ?_
  refine WC.seq ?_
  refine WC.region ?_
  refine WL.val (Val.moveP rfl) rfl ?_
  refine WL.val (Val.nilCheckP rfl) rfl ?_
  refine WL.val (Val.fldAddr rfl) rfl ?_
  refine WL.val (Val.loadS rfl (Rd.own1 1 rfl rfl)) rfl ?_
  refine WL.val (Val.moveI rfl) rfl ?_
  refine WL.val (Val.indexAddr rfl rfl (by omega) (by omega)) rfl ?_
  refine WL.val (Val.fldAddr rfl) rfl ?_
  refine WL.val (Val.loadS rfl (Rd.sl1 2 rfl (by assumption))) rfl ?_
  refine WL.val (Val.moveI rfl) rfl ?_
  refine WL.val (Val.moveS rfl) rfl ?_
  refine WL.val (Val.len rfl) rfl ?_
  refine WL.val (Val.assignI rfl) rfl ?_
  refine WL.val (Val.assignI rfl) rfl ?_
  refine WL.val (Val.assignI rfl) rfl ?_
  refine WL.val (Val.assignI rfl) rfl ?_
  refine WL.nil ?_
  refine WX.thenC ?_
  refine WC.ret ?_
  apply WX.doneP (ks := [0, 0, 0, 0, 0])
  case hres => exact RunRes.r4 rfl (ResIs.tmpI rfl) (ResIs.tmpI rfl) (ResIs.tmpI rfl) (ResIs.tmpI rfl)
  case hI => first | exact Mem.le.refl _ | assumption
  refine ⟨rfl, C, ?_, ?_, rfl, hAbsC C hC⟩
  · rw [hlk]
  · rw [hCb, hHb2, pb]
end Go.Proofs.Ytfdeckdongonnab

/-
  Tree, the program's: what each question is answered, of an arena that is a tree.
-/

namespace Go.Tr
open Go.Sl Go.Ls
section
variable {A : Ar} {top : Nd}
theorem Abs.find (h : Abs A top) (i : Int) : (A.at_ i).isSome = (Nd.find i top).isSome ∧ ∀ n : Nat, A.at_ i = some (n : Int) → ∃ p, Tr A p n ((Nd.find i top).getD Nd.zero) := by
  refine ⟨by rw [Bool.eq_iff_iff, h.at_iff, Nd.find_some], fun n hn => ?_⟩
  obtain ⟨hm, hid, _⟩ := h.at_mem hn
  obtain ⟨qp, np, R, RO, f⟩ := h.foc hm
  have : np.id = i := by rw [← f.id, hid]
  rw [← this, f.find]
  exact ⟨qp, f.tr⟩
theorem Abs.fsize (h : Abs A top) (i : Int) : ((Nd.find i top).getD Nd.zero).size ≤ 100000 := by
  have := h.size_le
  cases hf : Nd.find i top with
  | none => show Nd.zero.size ≤ _; rw [show Nd.zero.size = 1 from rfl]; omega
  | some m => have := Nd.find_size i top m hf; show m.size ≤ _; omega
end
end Go.Tr
namespace Go.Proofs.Ytfdeckdongonnab
open Go.Sl Go.Ls Go.Tr
set_option maxRecDepth 100000
set_option maxHeartbeats 4000000
set_option linter.unusedVariables false
attribute [local irreducible] WC WL WX WK WA WAK Val Ctr RunRes ResIs Rd At sl box pt Exit.then Exit.inBlock bodyPost Code.wp wpList
theorem KeepR.mono {L : List HP} {R R' : Value → Mem → Prop} (h : ∀ v I, R v I → R' v I) : ∀ v I' L', KeepR L R v I' L' → KeepR L R' v I' L' := fun v I' L' ⟨h1, h2⟩ => ⟨h1, h v I' h2⟩
theorem aKids (A : Ar) (top : Nd) (hA : Abs A top) (i : Int) (I : Mem) :
    Ctr Try.prog 28 [ptr A.b, vi i] I A.hp (KeepR A.hp fun v I' => LsAt Ls.Int.rep I' (((Nd.find i top).map fun n => n.kids.map Nd.id).getD []) v) := by
  obtain ⟨h1, h2⟩ := hA.find i
  have h3 := hA.fsize i
  refine (tKids A i ((Nd.find i top).getD Nd.zero) I hA.ok (by omega) h2).mono fun v I' L' _ => KeepR.mono (fun v I h => ?_) v I' L'
  rw [h1] at h
  cases hf : Nd.find i top with
  | none => rw [hf] at h; exact h
  | some m => rw [hf] at h; exact h
theorem aDepth (A : Ar) (top : Nd) (hA : Abs A top) (i : Int) (I : Mem) :
    Ctr Try.prog 13 [ptr A.b, vi i] I A.hp (Keep I A.hp fun v => v = vi (Nd.depth i top)) := by
  have hs := hA.size_le
  rcases hA.cases i with ⟨e, hn⟩ | ⟨q, e, hq, hid, hm⟩
  · refine (tDepth A i [] I hA.ok (fun n h => by rw [e] at h; cases h) (by simp)).mono fun v I' L' _ ⟨a, b, c⟩ => ⟨a, b, ?_⟩
    rw [c, e, Nd.depth_none _ _ hn]; rfl
  · obtain ⟨l, hl, hd, _⟩ := hA.up hq
    rw [hid] at hd
    have := (Nd.depth_le i top).1
    refine (tDepth A i l I hA.ok (fun n h => by
      rw [e] at h
      injection h with h
      have : q = n := by omega
      subst this; exact hl) (by omega)).mono fun v I' L' _ ⟨a, b, c⟩ => ⟨a, b, ?_⟩
    rw [c, e, hd]; rfl
theorem aNode (A : Ar) (top : Nd) (hA : Abs A top) (i : Int) (I : Mem) :
    Ctr Try.prog 20 [ptr A.b, vi i] I A.hp (KeepR A.hp fun v I' => ∃ nv, v = .tuple #[nv, .bool (Nd.find i top).isSome] ∧ NdAt ((Nd.find i top).getD Nd.zero) nv I') := by
  obtain ⟨h1, h2⟩ := hA.find i
  have h3 := hA.fsize i
  refine (tNodeI A i ((Nd.find i top).getD Nd.zero) I hA.ok (by omega) h2).mono fun v I' L' _ => KeepR.mono (fun v I h => ?_) v I' L'
  rw [h1] at h
  cases hf : Nd.find i top with
  | none => rw [hf] at h; exact h
  | some m => rw [hf] at h; exact h
theorem aIsGroup (A : Ar) (top : Nd) (hA : Abs A top) (i : Int) (I : Mem) :
    Ctr Try.prog 29 [ptr A.b, vi i] I A.hp (Keep I A.hp fun v => v = .bool (((Nd.find i top).map Nd.grp).getD false)) := by
  refine (tIsGroup A i I hA.ok).mono fun v I' L' _ ⟨a, b, c⟩ => ⟨a, b, ?_⟩
  rw [c]
  rcases hA.grp i with ⟨hg, hf⟩ | ⟨q, qp, np, R, RO, hq, _, _, _, hf, _, _, hg⟩
  · rw [hg, hf]; rfl
  · rw [hg, hf]
    simp only [Option.map_some, Option.getD_some]
    cases np.grp <;> rfl
theorem aCount (A : Ar) (top : Nd) (hA : Abs A top) (I : Mem) :
    Ctr Try.prog 12 [ptr A.b] I A.hp (Keep I A.hp fun v => v = vi ((top.size : Int) - 1)) := by
  have := hA.size_le
  have hc := hA.cnt
  refine (tCount A I (by omega)).mono fun v I' L' _ ⟨a, b, c⟩ => ⟨a, b, ?_⟩
  rw [c, hc]
theorem order_tail {A : Ar} {top : Nd} (hA : Abs A top) : top.order.filter (fun i => i != 0) = top.order.tail := by
  have h1 := Nd.order_eq top
  have h2 := hA.od
  rw [h1, hA.id0, List.nodup_cons] at h2
  rw [h1, hA.id0]
  simp only [List.filter_cons, bne_self_eq_false, Bool.false_eq_true, if_false, List.tail_cons]
  exact List.filter_eq_self.2 fun x hx => by
    simp only [bne_iff_ne, ne_eq]
    exact fun e => h2.1 (e ▸ hx)
theorem aOrder (A : Ar) (top : Nd) (hA : Abs A top) (I : Mem) :
    Ctr Try.prog 26 [ptr A.b] I A.hp (KeepR A.hp fun v I' => LsAt Ls.Int.rep I' top.order.tail v) := by
  have := hA.size_le
  have h := tOrder A hA.ok top (-1) I (by omega) hA.tr
  rw [order_tail hA] at h
  exact h
/-- Where, as numbers. -/
def whrV (r : Option (Int × Int)) : Value := match r with
  | none => .tuple #[vi 0, vi 0, .bool false]
  | some (p, k) => .tuple #[vi p, vi k, .bool true]
theorem aWhere (A : Ar) (top : Nd) (hA : Abs A top) (i : Int) (I : Mem) :
    Ctr Try.prog 27 [ptr A.b, vi i] I A.hp (Keep I A.hp fun v => v = whrV (Nd.whr i top)) := by
  have hw : ∀ n : Nat, A.at_ i = some (n : Int) → n ≠ 0 → ∃ (y k : Nat), Lies A n y k ∧ Nd.whr i top = some (A.idAt y, (k : Int)) := fun n hn h0 => by
    obtain ⟨hm, hid, _⟩ := hA.at_mem hn
    obtain ⟨y, _, k, h1, h2⟩ := hA.whr hm h0
    rw [hid] at h2
    exact ⟨y, k, h1, h2⟩
  refine (tWhere A i I hA.ok (fun n hn h0 => ?_)).mono fun v I' L' _ ⟨a, b, c⟩ => ⟨a, b, ?_⟩
  · obtain ⟨y, k, ⟨h1, h2, h3, h4, h5⟩, _⟩ := hw n hn h0
    exact ⟨h1, y, h2, k, h3, h4, h5⟩
  · rcases c with ⟨n, hn, p, hpl, k, e, h0, h1, h2, h3, rfl⟩ | ⟨e, rfl⟩
    · obtain ⟨y, k', ⟨g1, g2, g3, g4, g5⟩, hw2⟩ := hw n e h0
      have hy : y = p := by rw [h1] at g3; omega
      subst hy
      have hk : k' = k := by
        rcases Nat.lt_trichotomy k' k with q | q | q
        · exact absurd (mem_take? q g4) h3
        · exact q
        · exact absurd (mem_take? q h2) g5
      subst hk
      rw [hw2, whrV, Ar.idAt_eq hpl]
    · rcases e with e | e
      · rcases hA.cases i with ⟨_, hn⟩ | ⟨q, e2, _⟩
        · rw [Nd.whr_none _ _ hn]; rfl
        · rw [e] at e2; cases e2
      · obtain ⟨_, hid, _⟩ := hA.at_mem (q := 0) e
        rw [hA.tr.idAt] at hid
        rw [← hid, whr_root top hA.od]; rfl
end Go.Proofs.Ytfdeckdongonnab

/-
  Tree: awake.
-/

namespace Go.Sl
open Go.Ls
def ptk (P : Program) (t : Nat) : Bool := match P.underlying t with
  | some (.pointer _) => true
  | _ => false
class PtK (P : Program) (t : Nat) : Prop where
  is : ptk P t = true
theorem PtK.und {P : Program} {t : Nat} (h : ptk P t = true) : ∃ e, P.underlying t = some (.pointer e) := by
  unfold ptk at h
  split at h
  · rename_i e he; exact ⟨e, he⟩
  · cases h
section
variable {Γ : Cx} {ρ : Nat → Value} {I : Mem} {L : List HP} {ty : TypeId}
theorem run_eqNilP {P : Program} {t : Nat} (h : ∃ e, P.underlying t = some (.pointer e)) (a : Option Addr) (w : World) : (Op.equal t (.pointer a) (.pointer none)).run P w = .ok a.isNone w := by
  obtain ⟨e, hu⟩ := h
  unfold Op.equal Op.maxDepth
  show (Op.equalIn (9999 + 1) t (.pointer a) (.pointer none)).run P w = _
  unfold Op.equalIn
  cases a <;> (simp only [Sem.run_bind, run_underlying hu, Result.andThen_ok]; rfl)
/-- A pointer against nil. -/
theorem Val.eqlNilP {t t' : Nat} {a : Option Addr} {x : Operand} [hk : PtK Γ.P t] (hx : ev ρ x = .pointer a) : Val Γ ρ I L (.binOp .eql t x (.const (.pointer none)) t') ty (.bool a.isNone) :=
  fun w _ => by
    simp only [execOp, hx]
    simp [eqGuard, binOp, run_eqNilP (PtK.und hk.is), ev]
    all_goals rfl
theorem Val.neqNilP {t t' : Nat} {a : Option Addr} {x : Operand} [hk : PtK Γ.P t] (hx : ev ρ x = .pointer a) : Val Γ ρ I L (.binOp .neq t x (.const (.pointer none)) t') ty (.bool a.isSome) :=
  fun w _ => by
    simp only [execOp, hx]
    cases a <;> (simp [eqGuard, binOp, run_eqNilP (PtK.und hk.is), ev]; try rfl)
end
end Go.Sl
namespace Go.Proofs.Ytfdeckdongonnab
open Go.Sl Go.Ls Go.Tr
set_option maxRecDepth 100000
set_option maxHeartbeats 4000000
set_option linter.unusedVariables false
abbrev t0 : Nd := .mk 0 true []
abbrev t1 : Nd := .mk 0 true [.mk 1 false []]
abbrev t2 : Nd := .mk 0 true [.mk 2 false [], .mk 1 false []]
abbrev t3 : Nd := .mk 0 true [.mk 9 true [.mk 2 false [], .mk 1 false []]]
theorem e1 : Nd.add t0 0 0 (.mk 1 false []) = (t1, 0) := by rfl
theorem e2 : Nd.add t1 0 0 (.mk 2 false []) = (t2, 0) := by rfl
theorem e3 : Nd.wrap t2 9 0 0 2 = (t3, 0) := by rfl
instance : PtK Try.prog 22 := ⟨by kernel_rfl⟩
attribute [local irreducible] WC WL WX WK WA WAK Val Ctr RunRes ResIs Rd At sl box pt Exit.then Exit.inBlock bodyPost Code.wp wpList
theorem tAwake (I : Mem) : Ctr Try.prog 10 [] I [] (KeepR [] fun v _ => v = .bool true) := by
  refine Ctr.intro Try.func10 rfl rfl rfl fun E F => ?_
  refine WC.seq ?_
  refine WC.region ?_
  refine WL.val (Val.assignB rfl) rfl ?_
  refine WL.nil ?_
  refine WX.thenC ?_
  refine WC.seq ?_
  refine WC.region ?_
  refine WL.callP [] rfl rfl (tNew _) rfl ?_
  rintro _ _ _ hI1 ⟨rfl, b, mb, cg, rfl, rfl⟩
  have hA0 := Abs.fresh b mb cg
  have hb0 : (Ar.fresh b mb cg).b = b := rfl
  generalize Ar.fresh b mb cg = A0 at *
  subst hb0
  refine WL.nApp ?_
  refine WL.val (Val.assignP rfl) rfl ?_
  refine WL.nil ?_
  refine WX.thenC ?_
  refine WC.seq ?_
  refine WC.seq ?_
  refine WC.region ?_
  refine WL.val (Val.moveP rfl) rfl ?_
  refine WL.val (Val.eqlNilP rfl) rfl ?_
  refine WL.val (Val.moveB rfl) rfl ?_
  refine WL.gT rfl rfl ?_
  refine WL.val (Val.moveP rfl) rfl ?_
  refine WL.gT rfl rfl ?_
  refine WL.val (Val.build (cs := [vi 1, .bool false, .slice none 0 0]) rfl) rfl ?_
  refine WL.gT rfl rfl ?_
  refine WL.callP [1, 1, 1, 1, 1] rfl rfl (tAdd A0 t0 hA0 (.mk 1 false []) (.slice none 0 0) 0 0 _ (by decide) ⟨by decide, by decide⟩ (LsAt.nil _ _)) rfl ?_
  rw [e1]
  rintro _ I2 _ hI2 ⟨rfl, A1, hb1, rfl, hA1⟩
  rw [← hb1]
  refine WL.nApp ?_
  refine WL.gT rfl rfl ?_
  refine WL.val (Val.neq rfl rfl (bne_eq_false_iff_eq.2 (by omega))) rfl ?_
  refine WL.val (Val.pick rfl) rfl ?_
  refine WL.val (Val.moveB rfl) rfl ?_
  refine WL.gT rfl rfl ?_
  refine WL.val (Val.moveP rfl) rfl ?_
  refine WL.gT rfl rfl ?_
  refine WL.val (Val.build (cs := [vi 2, .bool false, .slice none 0 0]) rfl) rfl ?_
  refine WL.gT rfl rfl ?_
  refine WL.callP [1, 1, 1, 1, 1] rfl rfl (tAdd A1 t1 hA1 (.mk 2 false []) (.slice none 0 0) 0 0 _ (by decide) ⟨by decide, by decide⟩ (LsAt.nil _ _)) rfl ?_
  rw [e2]
  rintro _ I3 _ hI3 ⟨rfl, A2, hb2, rfl, hA2⟩
  rw [← hb2]
  refine WL.nApp ?_
  refine WL.gT rfl rfl ?_
  refine WL.val (Val.neq rfl rfl (bne_eq_false_iff_eq.2 (by omega))) rfl ?_
  refine WL.val (Val.pick rfl) rfl ?_
  refine WL.val (Val.moveB rfl) rfl ?_
  refine WL.gT rfl rfl ?_
  refine WL.val (Val.moveP rfl) rfl ?_
  refine WL.gT rfl rfl ?_
  refine WL.callP [1, 1, 1, 1, 1] rfl rfl (tWrap A2 t2 hA2 9 0 0 2 _ ⟨by decide, by decide⟩ ⟨by decide, by decide⟩) rfl ?_
  rw [e3]
  rintro _ I4 _ hI4 ⟨rfl, A3, hb3, rfl, hA3⟩
  rw [← hb3]
  refine WL.nApp ?_
  refine WL.gT rfl rfl ?_
  refine WL.val (Val.neq rfl rfl (bne_eq_false_iff_eq.2 (by omega))) rfl ?_
  refine WL.val (Val.pick rfl) rfl ?_
  refine WL.nil ?_
  refine WX.thenC ?_
  refine WC.condF rfl ?_
  refine WC.skip ?_
  refine WX.thenC ?_
  refine WC.seq ?_
  refine WC.region ?_
  refine WL.val (Val.moveP rfl) rfl ?_
  refine WL.callR [1, 1, 1, 1, 1] rfl rfl rfl (aKids A3 t3 hA3 9 _) rfl ?_
  intro v I5 hI5 hv
  have hv2 : LsAt Ls.Int.rep I5 [2, 1] v := hv
  obtain ⟨kb, ko, kc, cs0, rfl, ⟨rfl, _⟩, hk0⟩ := hv2.get 0 (by decide)
  obtain ⟨kb', ko', kc', cs1, he, ⟨rfl, _⟩, hk1⟩ := hv2.get 1 (by decide)
  injection he with he
  injection he with he
  injection he with he1 he2
  subst he1; subst he2
  have hk0' : Sl.At I5 kb (ko + 0) [vi 2] := hk0
  have hk1' : Sl.At I5 kb (ko + 1) [vi 1] := hk1
  refine WL.val (Val.assignS rfl) rfl ?_
  refine WL.nil ?_
  refine WX.thenC ?_
  refine WC.seq ?_
  refine WC.region ?_
  refine WL.val (Val.moveS rfl) rfl ?_
  refine WL.val (Val.len rfl) rfl ?_
  refine WL.val (Val.eql rfl rfl rfl) rfl ?_
  refine WL.val (Val.moveB rfl) rfl ?_
  refine WL.gT rfl rfl ?_
  refine WL.val (Val.moveS rfl) rfl ?_
  refine WL.gT rfl rfl ?_
  refine WL.val (Val.indexAddr rfl rfl (by decide) (by decide)) rfl ?_
  refine WL.gT rfl rfl ?_
  refine WL.val (Val.loadS rfl (Rd.imm hk0')) rfl ?_
  refine WL.gT rfl rfl ?_
  refine WL.val (Val.eql rfl rfl (beq_iff_eq.2 (by omega))) rfl ?_
  refine WL.val (Val.pick rfl) rfl ?_
  refine WL.val (Val.moveB rfl) rfl ?_
  refine WL.gT rfl rfl ?_
  refine WL.val (Val.moveS rfl) rfl ?_
  refine WL.gT rfl rfl ?_
  refine WL.val (Val.indexAddr rfl rfl (by decide) (by decide)) rfl ?_
  refine WL.gT rfl rfl ?_
  refine WL.val (Val.loadS rfl (Rd.imm hk1')) rfl ?_
  refine WL.gT rfl rfl ?_
  refine WL.val (Val.eql rfl rfl (beq_iff_eq.2 (by omega))) rfl ?_
  refine WL.val (Val.pick rfl) rfl ?_
  refine WL.val (Val.moveB rfl) rfl ?_
  refine WL.gT rfl rfl ?_
  refine WL.val (Val.moveP rfl) rfl ?_
  refine WL.gT rfl rfl ?_
  refine WL.callK [1, 1, 1, 1, 1] rfl rfl rfl (aDepth A3 t3 hA3 1 _) rfl ?_
  rintro _ rfl
  have ed : Nd.depth 1 t3 = 2 := rfl
  rw [ed]
  refine WL.gT rfl rfl ?_
  refine WL.val (Val.eql rfl rfl (beq_iff_eq.2 (by omega))) rfl ?_
  refine WL.val (Val.pick rfl) rfl ?_
  refine WL.val (Val.moveB rfl) rfl ?_
  refine WL.gT rfl rfl ?_
  refine WL.val (Val.moveP rfl) rfl ?_
  refine WL.gT rfl rfl ?_
  refine WL.callK [1, 1, 1, 1, 1] rfl rfl rfl (aCount A3 t3 hA3 _) rfl ?_
  rintro _ rfl
  have ec : ((t3.size : Int) - 1) = 3 := rfl
  rw [ec]
  have hJ := hI2.trans (hI3.trans (hI4.trans hI5))
  refine WL.gT rfl rfl ?_
  refine WL.val (Val.eql rfl rfl (beq_iff_eq.2 (by omega))) rfl ?_
  refine WL.val (Val.pick rfl) rfl ?_
  refine WL.val (Val.assignB rfl) rfl ?_
  refine WL.nil ?_
  refine WX.thenC ?_
  refine WC.ret ?_
  apply WX.doneP (ks := [])
  case hres => exact RunRes.r1 rfl (ResIs.tmpB rfl)
  case hI => first | exact Mem.le.refl _ | assumption
  exact ⟨rfl, rfl⟩
end Go.Proofs.Ytfdeckdongonnab

/-
  Tree, TreeDeep's plain law: groups within groups, one in each.
-/

namespace Go.Tr
open Go.Sl Go.Ls
set_option linter.unusedVariables false
set_option linter.unusedSimpArgs false
namespace Nd
/-- A group, and n below it, one in each; their IDs count on. -/
def ch : Nat → Int → Nd
  | 0, i => .mk i true []
  | n + 1, i => .mk i true [ch n (i + 1)]
theorem ch_id (n : Nat) (i : Int) : (ch n i).id = i := by cases n <;> rfl
theorem ch_grp (n : Nat) (i : Int) : (ch n i).grp = true := by cases n <;> rfl
theorem ch_size : ∀ (n : Nat) (i : Int), (ch n i).size = n + 1
  | 0, i => rfl
  | n + 1, i => by rw [ch, size, sizes, sizes, ch_size n]; omega
theorem ch_height : ∀ (n : Nat) (i : Int), (ch n i).height = n + 1
  | 0, i => rfl
  | n + 1, i => by rw [ch, height, heights, heights, ch_height n]; omega
theorem ch_find : ∀ (n : Nat) (i j : Int), find j (ch n i) = if i ≤ j ∧ j ≤ i + n then some (ch (n - (j - i).toNat) j) else none
  | 0, i, j => by
    rw [ch, find, finds]
    by_cases h : i = j
    · subst h
      rw [if_pos rfl, if_pos ⟨by omega, by omega⟩]
      simp [ch]
    · rw [if_neg h, if_neg (by omega)]
  | n + 1, i, j => by
    rw [ch, find, finds, finds, ch_find n (i + 1) j]
    by_cases h : i = j
    · subst h
      rw [if_pos rfl, if_pos ⟨by omega, by omega⟩]
      simp [ch]
    · rw [if_neg h, Option.or_none]
      by_cases h2 : i ≤ j ∧ j ≤ i + ((n + 1 : Nat) : Int)
      · rw [if_pos h2, if_pos (by omega)]
        congr 2
        omega
      · rw [if_neg h2, if_neg (by omega)]
theorem ch_depth : ∀ (n : Nat) (i j : Int), i ≤ j → j ≤ i + n → depth j (ch n i) = j - i
  | 0, i, j, h1, h2 => by
    rw [ch, depth, if_pos (by omega)]; omega
  | n + 1, i, j, h1, h2 => by
    rw [ch, depth]
    by_cases h : i = j
    · rw [if_pos h]; omega
    · have ih := ch_depth n (i + 1) j (by omega) (by omega)
      rw [if_neg h, depths, ih, if_pos (by omega)]; omega
theorem ch_with : ∀ (n : Nat) (i j : Int), j = i + n → with_ j [.mk (j + 1) true []] (ch n i) = ch (n + 1) i
  | 0, i, j, h => by
    have : j = i := by omega
    subst this
    rw [ch, with_, if_pos rfl]; rfl
  | n + 1, i, j, h => by
    rw [ch, with_, if_neg (by omega), withs, withs, ch_with n (i + 1) j (by omega)]
    rfl
theorem fits_one {top : Nd} {i : Int} {d : Int} (h1 : 1 ≤ i) (h2 : i ≤ 2147483648) (hf : find i top = none) (hs : top.size ≤ 1000) : fits top (.mk i true []) d = if 64 < d then 35 else 0 := by
  have hz : (Nd.mk i true []).size = 1 := rfl
  rw [fits, hz, if_neg (by omega), wrong, if_neg (by omega), hf]
  simp only [Option.isSome_none, Bool.false_eq_true, if_false, List.not_mem_nil, List.length_nil]
  rw [if_neg (by simp)]
  split
  · rfl
  · rfl
theorem add_ch (n : Nat) (hn : n ≤ 70) : add (ch n 0) n 0 (.mk ((n : Int) + 1) true []) = if n < 64 then (ch (n + 1) 0, 0) else (ch n 0, 35) := by
  have hf : find (n : Int) (ch n 0) = some (ch 0 n) := by
    rw [ch_find, if_pos (by omega)]
    congr 2
    omega
  have hfn : find ((n : Int) + 1) (ch n 0) = none := by rw [ch_find, if_neg (by omega)]
  have hd : depth (n : Int) (ch n 0) = n := by rw [ch_depth n 0 n (by omega) (by omega)]; omega
  rw [add, hf]
  simp only [ch_grp, Bool.true_eq_false, if_false]
  have hk : (ch 0 (n : Int)).kids = [] := rfl
  rw [hk, if_neg (by simp), hd]
  by_cases h : n < 64
  · have hv : fits (ch n 0) (.mk ((n : Int) + 1) true []) ((n : Int) + 1) = 0 := by rw [fits_one (by omega) (by omega) hfn (by rw [ch_size]; omega), if_neg (by omega)]
    rw [hv, if_neg (by simp), if_pos h]
    show (with_ (n : Int) ([] ++ (Nd.mk ((n : Int) + 1) true [] :: [])) (ch n 0), (0 : Int)) = _
    rw [List.nil_append, ch_with n 0 n (by omega)]
  · have hv : fits (ch n 0) (.mk ((n : Int) + 1) true []) ((n : Int) + 1) = 35 := by rw [fits_one (by omega) (by omega) hfn (by rw [ch_size]; omega), if_pos (by omega)]
    rw [hv, if_pos (by decide), if_neg h]
/-- Behind the wrapping. -/
abbrev wr (n : Nat) : Nd := .mk 0 true [.mk 100 true [ch n 1]]
theorem wrap_ch (n : Nat) (hn : n < 64) : wrap (ch (n + 1) 0) 100 0 0 1 = if n = 63 then (ch (n + 1) 0, 35) else (wr n, 0) := by
  have hf : find 0 (ch (n + 1) 0) = some (ch (n + 1) 0) := by rw [ch, find, if_pos rfl]
  have hfn : find 100 (ch (n + 1) 0) = none := by rw [ch_find, if_neg (by omega)]
  have hd : depth 0 (ch (n + 1) 0) = 0 := by rw [ch, depth, if_pos rfl]
  rw [wrap, hf]
  simp only [ch_grp, Bool.true_eq_false, if_false]
  have hk : (ch (n + 1) 0).kids = [ch n 1] := rfl
  have hv : fits (ch (n + 1) 0) (.mk 100 true []) (0 + 1) = 0 := by rw [fits_one (by omega) (by omega) hfn (by rw [ch_size]; omega), if_neg (by omega)]
  rw [hk, if_neg (by simp), hd, hv, if_neg (by simp)]
  have hh : (Nd.mk 100 true (([ch n 1].drop (0 : Int).toNat).take (1 : Int).toNat)).height = n + 2 := by
    show (Nd.mk 100 true [ch n 1]).height = n + 2
    rw [height, heights, heights, ch_height]; omega
  rw [hh]
  by_cases h : n = 63
  · rw [if_pos (by omega), if_pos h]
  · rw [if_neg (by omega), if_neg h]
    show (with_ 0 ([] ++ (Nd.mk 100 true [ch n 1] :: [])) (ch (n + 1) 0), (0 : Int)) = _
    rw [List.nil_append, ch, with_, if_pos rfl]
abbrev two : Nd := .mk 200 true [.mk 201 true []]
abbrev wr2 (n : Nat) : Nd := .mk 0 true [two, .mk 100 true [ch n 1]]
theorem wr_find (n : Nat) (hn : n < 63) (j : Int) : find j (wr n) = if j = 0 then some (wr n) else if j = 100 then some (.mk 100 true [ch n 1]) else find j (ch n 1) := by
  simp only [find, finds, Option.or_none]
  by_cases h0 : (0 : Int) = j
  · subst h0; rfl
  · have h0' : ¬ j = 0 := fun e => h0 e.symm
    rw [if_neg h0, if_neg h0']
    by_cases h1 : (100 : Int) = j
    · subst h1; rfl
    · have h1' : ¬ j = 100 := fun e => h1 e.symm
      rw [if_neg h1, if_neg h1']
theorem add_wr (n : Nat) (hn : n < 63) : add (wr n) 0 0 two = (wr2 n, 0) := by
  have hf : find 0 (wr n) = some (wr n) := by rw [wr_find n hn, if_pos rfl]
  have hd : depth 0 (wr n) = 0 := by rw [depth, if_pos rfl]
  have f200 : find 200 (wr n) = none := by rw [wr_find n hn, if_neg (by decide), if_neg (by decide), ch_find, if_neg (by omega)]
  have f201 : find 201 (wr n) = none := by rw [wr_find n hn, if_neg (by decide), if_neg (by decide), ch_find, if_neg (by omega)]
  have hs : (wr n).size = n + 3 := by simp only [size, sizes, ch_size]; omega
  have hfit : fits (wr n) two 1 = 0 := by
    have hz : two.size = 2 := rfl
    rw [fits, hz, hs, if_neg (by omega), wrong, f200]
    simp only [wrongs, wrong, f201]
    decide
  rw [add, hf]
  simp only [grp, Bool.true_eq_false, if_false]
  have hk : (wr n).kids = [.mk 100 true [ch n 1]] := rfl
  rw [hk, if_neg (by simp), hd]
  rw [show (0 : Int) + 1 = 1 from rfl, hfit, if_neg (by simp)]
  show (with_ 0 ([] ++ (two :: [.mk 100 true [ch n 1]])) (wr n), (0 : Int)) = _
  rw [List.nil_append, with_, if_pos rfl]
theorem move_wr (n : Nat) (hn : n < 63) : (move (wr2 n) 200 ((n : Int) + 1) 0).2 = if n + 4 ≤ 64 then 0 else 35 := by
  have hf2 : find 200 (wr2 n) = some two := by rw [find, if_neg (by decide), finds, find, if_pos rfl]; rfl
  have hw2 : whr 200 (wr2 n) = some (0, 0) := by rw [whr, whrs]; rfl
  have hf0 : find 0 (wr2 n) = some (wr2 n) := by rw [find, if_pos rfl]
  have hrem : remove (wr2 n) 200 = (wr n, two, 0, 0, 0) := by
    rw [remove, if_neg (by decide), hf2]
    simp only [hw2, hf0]
    show (with_ 0 [.mk 100 true [ch n 1]] (wr2 n), two, (0 : Int), (0 : Int), (0 : Int)) = _
    rw [with_, if_pos rfl]
  have hch : find ((n : Int) + 1) (ch n 1) = some (ch 0 ((n : Int) + 1)) := by
    rw [ch_find, if_pos (by omega)]
    congr 2
    omega
  have hfp : find ((n : Int) + 1) (wr n) = some (ch 0 ((n : Int) + 1)) := by
    rw [wr_find n hn, if_neg (by omega), if_neg (by omega), hch]
  have hfp2 : find ((n : Int) + 1) (wr2 n) = some (ch 0 ((n : Int) + 1)) := by
    have a0 : ¬ (0 : Int) = (n : Int) + 1 := by omega
    have a1 : ¬ (200 : Int) = (n : Int) + 1 := by omega
    have a2 : ¬ (201 : Int) = (n : Int) + 1 := by omega
    have a3 : ¬ (100 : Int) = (n : Int) + 1 := by omega
    simp only [find, finds, if_neg a0, if_neg a1, if_neg a2, if_neg a3, hch, Option.or_none, Option.none_or]
  have hft : find ((n : Int) + 1) two = none := by rw [find, if_neg (by omega), finds, find, if_neg (by omega)]; rfl
  have hd : depth ((n : Int) + 1) (wr n) = n + 2 := by
    have := ch_depth n 1 ((n : Int) + 1) (by omega) (by omega)
    have d1 : depths ((n : Int) + 1) [ch n 1] = n + 1 := by
      rw [depths, this, if_pos (by omega)]; omega
    have d2 : depth ((n : Int) + 1) (.mk 100 true [ch n 1]) = n + 1 := by rw [depth, if_neg (by omega), d1]
    rw [depth, if_neg (by omega), depths, d2, if_pos (by omega)]
    omega
  have hh : two.height = 2 := rfl
  rw [move, hrem]
  simp only [ne_eq, not_true, if_false, hfp2, ch_grp, Bool.true_eq_false, hft, Option.isSome_none, Bool.false_eq_true, hfp, Option.getD_some, hd, hh]
  have hk : (ch 0 ((n : Int) + 1)).kids = [] := rfl
  rw [hk, if_neg (by simp)]
  by_cases h : n + 4 ≤ 64
  · rw [if_neg (by omega), if_pos h]
  · rw [if_pos (by omega), if_neg h]
end Nd
end Go.Tr

/-
  Tree: TreeDeep.
-/

namespace Go.Proofs.Ytfdeckdongonnab
open Go.Sl Go.Ls Go.Tr
set_option maxRecDepth 100000
set_option maxHeartbeats 8000000
set_option linter.unusedVariables false
attribute [local irreducible] WC WL WX WK WA WAK Val Ctr RunRes ResIs Rd At sl box pt Exit.then Exit.inBlock bodyPost Code.wp wpList
theorem tDeep (depth : Int) (I : Mem) (hd64 : I64 depth) : Ctr Try.prog 3 [vi depth] I [] (KeepR [] fun v _ => v = .bool true) := by
  refine Ctr.intro Try.func3 rfl rfl rfl fun E F => ?_
  refine WC.seq ?_
  refine WC.region ?_
  refine WL.val (Val.assignB rfl) rfl ?_
  refine WL.nil ?_
  refine WX.thenC ?_
  refine WC.seq ?_
  refine WC.region ?_
  refine WL.callP [] rfl rfl (tNew _) rfl ?_
  rintro _ I1 _ hI1 ⟨rfl, b, mb, cg, rfl, rfl⟩
  have hA0 : Abs (Ar.fresh b mb cg) (Nd.ch 0 0) := Abs.fresh b mb cg
  have hb0 : (Ar.fresh b mb cg).b = b := rfl
  generalize Ar.fresh b mb cg = A0 at *
  subst hb0
  refine WL.nApp ?_
  refine WL.val (Val.assignP rfl) rfl ?_
  refine WL.nil ?_
  refine WX.thenC ?_
  refine WC.seq ?_
  refine WC.seq ?_
  refine WC.region ?_
  refine WL.val (Val.moveP rfl) rfl ?_
  refine WL.val (Val.eqlNilP rfl) rfl ?_
  by_cases h1 : depth < 1
  · skip
    refine WL.val (Val.moveB rfl) rfl ?_
    refine WL.gT rfl rfl ?_
    refine WL.val (Val.moveI rfl) rfl ?_
    refine WL.gT rfl rfl ?_
    refine WL.val (Val.lss rfl rfl (decide_eq_true (by omega))) rfl ?_
    refine WL.val (Val.pick rfl) rfl ?_
    refine WL.val (Val.moveB rfl) rfl ?_
    refine WL.gF rfl rfl rfl rfl ?_
    refine WL.gF rfl rfl rfl rfl ?_
    refine WL.val (Val.pick rfl) rfl ?_
    refine WL.nil ?_
    refine WX.thenC ?_
    refine WC.condT rfl ?_
    refine WC.seq ?_
    refine WC.region ?_
    refine WL.val (Val.moveP rfl) rfl ?_
    refine WL.val (Val.neqNilP rfl) rfl ?_
    refine WL.val (Val.moveB rfl) rfl ?_
    refine WL.gT rfl rfl ?_
    refine WL.callP [] rfl rfl (tAwake _) rfl ?_
    rintro _ I2 _ hI2 ⟨rfl, rfl⟩
    refine WL.nApp ?_
    refine WL.val (Val.pick rfl) rfl ?_
    refine WL.val (Val.assignB rfl) rfl ?_
    refine WL.nil ?_
    refine WX.thenC ?_
    refine WC.ret ?_
    refine WX.thenRet ?_
    apply WX.doneP (ks := [])
    case hres => exact RunRes.r1 rfl (ResIs.tmpB rfl)
    case hI => first | exact Mem.le.refl _ | assumption
    exact ⟨rfl, rfl⟩
  by_cases h2 : 70 < depth
  · skip
    refine WL.val (Val.moveB rfl) rfl ?_
    refine WL.gT rfl rfl ?_
    refine WL.val (Val.moveI rfl) rfl ?_
    refine WL.gT rfl rfl ?_
    refine WL.val (Val.lss rfl rfl (decide_eq_false (by omega))) rfl ?_
    refine WL.val (Val.pick rfl) rfl ?_
    refine WL.val (Val.moveB rfl) rfl ?_
    refine WL.gT rfl rfl ?_
    refine WL.val (Val.moveI rfl) rfl ?_
    refine WL.gT rfl rfl ?_
    refine WL.val (Val.gtr rfl rfl (decide_eq_true (by omega))) rfl ?_
    refine WL.val (Val.pick rfl) rfl ?_
    refine WL.nil ?_
    refine WX.thenC ?_
    refine WC.condT rfl ?_
    refine WC.seq ?_
    refine WC.region ?_
    refine WL.val (Val.moveP rfl) rfl ?_
    refine WL.val (Val.neqNilP rfl) rfl ?_
    refine WL.val (Val.moveB rfl) rfl ?_
    refine WL.gT rfl rfl ?_
    refine WL.callP [] rfl rfl (tAwake _) rfl ?_
    rintro _ I2 _ hI2 ⟨rfl, rfl⟩
    refine WL.nApp ?_
    refine WL.val (Val.pick rfl) rfl ?_
    refine WL.val (Val.assignB rfl) rfl ?_
    refine WL.nil ?_
    refine WX.thenC ?_
    refine WC.ret ?_
    refine WX.thenRet ?_
    apply WX.doneP (ks := [])
    case hres => exact RunRes.r1 rfl (ResIs.tmpB rfl)
    case hI => first | exact Mem.le.refl _ | assumption
    exact ⟨rfl, rfl⟩
  refine WL.val (Val.moveB rfl) rfl ?_
  refine WL.gT rfl rfl ?_
  refine WL.val (Val.moveI rfl) rfl ?_
  refine WL.gT rfl rfl ?_
  refine WL.val (Val.lss rfl rfl (decide_eq_false (by omega))) rfl ?_
  refine WL.val (Val.pick rfl) rfl ?_
  refine WL.val (Val.moveB rfl) rfl ?_
  refine WL.gT rfl rfl ?_
  refine WL.val (Val.moveI rfl) rfl ?_
  refine WL.gT rfl rfl ?_
  refine WL.val (Val.gtr rfl rfl (decide_eq_false (by omega))) rfl ?_
  refine WL.val (Val.pick rfl) rfl ?_
  refine WL.nil ?_
  refine WX.thenC ?_
  refine WC.condF rfl ?_
  refine WC.skip ?_
  refine WX.thenC ?_
  refine WC.seq ?_
  refine WC.region ?_
  refine WL.val (Val.assignI rfl) rfl ?_
  refine WL.nil ?_
  refine WX.thenC ?_
  refine WC.seq ?_
  refine WC.seq ?_
  refine WC.region ?_
  refine WL.val (Val.assignI rfl) rfl ?_
  refine WL.nil ?_
  refine WX.thenC ?_
  refine WC.block ?_
  refine WC.loop (fun m ρ' I' L' => ∃ (n : Nat) (A : Ar), m = 70 - n ∧ (n : Int) ≤ depth ∧ n ≤ 64 ∧ I1.le I' ∧ ρ' 0 = vi depth ∧ ρ' 3 = ptr A.b ∧ ρ' 4 = vi n ∧ ρ' 5 = vi ((n : Int) + 1) ∧ L' = F :: A.hp ∧ Abs A (Nd.ch n 0))
    70 ⟨0, A0, rfl, by omega, by decide, hI1, rfl, rfl, rfl, rfl, rfl, hA0⟩ ?_
  rintro m ρ' I' L' ⟨n, A, rfl, hnd, hn64, hI', r0, r3, r4, r5, rfl, hA⟩
  rw [← upd_self r5, ← upd_self r4, ← upd_self r3, ← upd_self r0]
  clear r5 r4 r3 r0
  by_cases hn : (n : Int) + 1 ≤ depth
  · skip
    refine WC.seq ?_
    refine WC.seq ?_
    refine WC.region ?_
    refine WL.val (Val.moveI rfl) rfl ?_
    refine WL.val (Val.moveI rfl) rfl ?_
    refine WL.val (Val.leq rfl rfl (decide_eq_true (by omega))) rfl ?_
    refine WL.nil ?_
    refine WX.thenC ?_
    refine WC.condT rfl ?_
    refine WC.skip ?_
    refine WX.thenC ?_
    refine WC.seq ?_
    refine WC.block ?_
    refine WC.seq ?_
    refine WC.region ?_
    refine WL.val (Val.moveP rfl) rfl ?_
    refine WL.val (Val.moveI rfl) rfl ?_
    refine WL.val (Val.moveI rfl) rfl ?_
    refine WL.val (Val.build (cs := [vi ((n : Int) + 1), .bool true, .slice none 0 0]) rfl) rfl ?_
    skip
    refine WL.callP [1, 1, 1, 1, 1] rfl rfl (tAdd A (Nd.ch n 0) hA (.mk ((n : Int) + 1) true []) (.slice none 0 0) n 0 _ (by simp [Nd.size, Nd.sizes]) (show I64 ((n : Int) + 1) from ⟨by omega, by omega⟩) (LsAt.nil _ _)) rfl ?_
    rw [Nd.add_ch n (by omega)]
    rintro _ I2 _ hI2 ⟨rfl, A1, hb1, rfl, hA1⟩
    rw [← hb1]
    refine WL.nApp ?_
    by_cases h64 : n < 64
    · rw [if_pos h64] at hA1 ⊢
      have hdp : Nd.depth ((n : Int) + 1) (Nd.ch (n + 1) 0) = (n : Int) + 1 := by rw [Nd.ch_depth (n + 1) 0 _ (by omega) (by omega)]; omega
      refine WL.val (Val.assignI rfl) rfl ?_
      refine WL.nil ?_
      refine WX.thenC ?_
      refine WC.seq ?_
      refine WC.seq ?_
      refine WC.region ?_
      refine WL.val (Val.moveI rfl) rfl ?_
      refine WL.val (Val.gtr rfl rfl (decide_eq_false (by omega))) rfl ?_
      refine WL.nil ?_
      refine WX.thenC ?_
      refine WC.condF rfl ?_
      refine WC.skip ?_
      refine WX.thenC ?_
      refine WC.seq ?_
      refine WC.seq ?_
      refine WC.region ?_
      refine WL.val (Val.moveI rfl) rfl ?_
      refine WL.val (Val.neq rfl rfl (bne_eq_false_iff_eq.2 (by omega))) rfl ?_
      refine WL.val (Val.moveB rfl) rfl ?_
      refine WL.gT rfl rfl ?_
      refine WL.val (Val.moveP rfl) rfl ?_
      refine WL.gT rfl rfl ?_
      refine WL.val (Val.moveI rfl) rfl ?_
      refine WL.gT rfl rfl ?_
      refine WL.callK [1, 1, 1, 1, 1] rfl rfl rfl (aDepth A1 (Nd.ch (n + 1) 0) hA1 ((n : Int) + 1) _) rfl ?_
      rintro _ rfl
      rw [hdp]
      refine WL.gT rfl rfl ?_
      refine WL.val (Val.moveI rfl) rfl ?_
      refine WL.gT rfl rfl ?_
      refine WL.val (Val.neq rfl rfl (bne_eq_false_iff_eq.2 (by omega))) rfl ?_
      refine WL.val (Val.pick rfl) rfl ?_
      refine WL.nil ?_
      refine WX.thenC ?_
      refine WC.condF rfl ?_
      refine WC.skip ?_
      refine WX.thenC ?_
      refine WC.region ?_
      refine WL.val (Val.moveI rfl) rfl ?_
      refine WL.val (Val.assignI rfl) rfl ?_
      refine WL.nil ?_
      refine WX.inNormal ?_
      refine WX.thenC ?_
      refine WC.region ?_
      refine WL.val (Val.moveI rfl) rfl ?_
      refine WL.val (Val.add rfl rfl (wrap_i64 (by omega) (by omega))) rfl ?_
      refine WL.val (Val.assignI rfl) rfl ?_
      refine WL.nil ?_
      exact WX.thenK (WK.round (70 - (n + 1)) (by omega) ⟨n + 1, A1, rfl, by omega, by omega, hI'.trans hI2, rfl, rfl, rfl, rfl, rfl, hA1⟩)
    · rw [if_neg h64] at hA1 ⊢
      have hz : ((Nd.ch n 0).size : Int) - 1 = 64 := by rw [Nd.ch_size]; omega
      refine WL.val (Val.assignI rfl) rfl ?_
      refine WL.nil ?_
      refine WX.thenC ?_
      refine WC.seq ?_
      refine WC.seq ?_
      refine WC.region ?_
      refine WL.val (Val.moveI rfl) rfl ?_
      refine WL.val (Val.gtr rfl rfl (decide_eq_true (by omega))) rfl ?_
      refine WL.nil ?_
      refine WX.thenC ?_
      refine WC.condT rfl ?_
      refine WC.seq ?_
      refine WC.region ?_
      refine WL.val (Val.moveI rfl) rfl ?_
      refine WL.val (Val.eql rfl rfl (beq_iff_eq.2 (by omega))) rfl ?_
      refine WL.val (Val.moveB rfl) rfl ?_
      refine WL.gT rfl rfl ?_
      refine WL.val (Val.moveP rfl) rfl ?_
      refine WL.gT rfl rfl ?_
      refine WL.callK [1, 1, 1, 1, 1] rfl rfl rfl (aCount A1 (Nd.ch n 0) hA1 _) rfl ?_
      rintro _ rfl
      rw [hz]
      refine WL.gT rfl rfl ?_
      refine WL.val (Val.eql rfl rfl (beq_iff_eq.2 (by omega))) rfl ?_
      refine WL.val (Val.pick rfl) rfl ?_
      refine WL.val (Val.moveB rfl) rfl ?_
      refine WL.gT rfl rfl ?_
      refine WL.callP [] rfl rfl (tAwake _) rfl ?_
      rintro _ I3 _ hI3 ⟨rfl, rfl⟩
      refine WL.nApp ?_
      have hJ := hI'.trans (hI2.trans hI3)
      refine WL.val (Val.pick rfl) rfl ?_
      refine WL.val (Val.assignB rfl) rfl ?_
      refine WL.nil ?_
      refine WX.thenC ?_
      refine WC.ret ?_
      refine WX.thenRet ?_
      refine WX.inRet ?_
      refine WX.thenRet ?_
      refine WX.thenRet ?_
      refine WX.inRet ?_
      refine WX.thenRet ?_
      apply WX.doneP (ks := [])
      case hres => exact RunRes.r1 rfl (ResIs.tmpB rfl)
      case hI => first | exact Mem.le.refl _ | assumption
      exact ⟨rfl, rfl⟩
  have hnz : n ≠ 0 := by omega
  obtain ⟨k, rfl⟩ := Nat.exists_eq_succ_of_ne_zero hnz
  have hdk : depth = (k : Int) + 1 := by omega
  subst hdk
  have hk64 : k < 64 := by omega
  have hwc := Nd.wrap_ch k hk64
  by_cases hf : k = 63
  · rw [if_pos hf] at hwc
    refine WC.seq ?_
    refine WC.seq ?_
    refine WC.region ?_
    refine WL.val (Val.moveI rfl) rfl ?_
    refine WL.val (Val.moveI rfl) rfl ?_
    refine WL.val (Val.leq rfl rfl (decide_eq_false (by omega))) rfl ?_
    refine WL.nil ?_
    refine WX.thenC ?_
    refine WC.condF rfl ?_
    refine WC.exit ?_
    refine WX.thenExit ?_
    refine WX.thenExit ?_
    refine WX.inHit ?_
    refine WX.thenC ?_
    refine WC.seq ?_
    refine WC.region ?_
    refine WL.val (Val.moveI rfl) rfl ?_
    refine WL.val (Val.eql rfl rfl (beq_iff_eq.2 (by omega))) rfl ?_
    refine WL.val (Val.assignB rfl) rfl ?_
    refine WL.nil ?_
    refine WX.thenC ?_
    refine WC.seq ?_
    refine WC.seq ?_
    refine WC.region ?_
    refine WL.val (Val.moveP rfl) rfl ?_
    refine WL.callP [1, 1, 1, 1, 1] rfl rfl (tWrap A (Nd.ch (k + 1) 0) hA 100 0 0 1 _ ⟨by decide, by decide⟩ ⟨by decide, by decide⟩) rfl ?_
    rw [hwc]
    rintro _ I2 _ hI2 ⟨rfl, A1, hb1, rfl, hA1⟩
    refine WL.nApp ?_
    refine WL.val (Val.assignI rfl) rfl ?_
    refine WL.nil ?_
    refine WX.thenC ?_
    refine WC.seq ?_
    refine WC.region ?_
    refine WL.val (Val.moveI rfl) rfl ?_
    refine WL.val (Val.eql rfl rfl (beq_iff_eq.2 (by omega))) rfl ?_
    refine WL.val (Val.moveB rfl) rfl ?_
    refine WL.val (Val.neqB rfl rfl) rfl ?_
    refine WL.val (Val.moveB rfl) rfl ?_
    refine WL.gT rfl rfl ?_
    refine WL.val (Val.moveB rfl) rfl ?_
    refine WL.gT rfl rfl ?_
    refine WL.val (Val.not rfl) rfl ?_
    refine WL.gT rfl rfl ?_
    refine WL.val (Val.moveB rfl) rfl ?_
    refine WL.gF rfl rfl rfl rfl ?_
    refine WL.gF rfl rfl rfl rfl ?_
    refine WL.gT rfl rfl ?_
    refine WL.val (Val.pick rfl) rfl ?_
    refine WL.val (Val.pick rfl) rfl ?_
    refine WL.nil ?_
    refine WX.thenC ?_
    refine WC.condF rfl ?_
    refine WC.skip ?_
    refine WX.thenC ?_
    refine WC.seq ?_
    refine WC.seq ?_
    refine WC.region ?_
    refine WL.val (Val.moveB rfl) rfl ?_
    refine WL.nil ?_
    refine WX.thenC ?_
    refine WC.condT rfl ?_
    refine WC.seq ?_
    refine WC.region ?_
    refine WL.callP [] rfl rfl (tAwake _) rfl ?_
    rintro _ I3 _ hI3 ⟨rfl, rfl⟩
    refine WL.nApp ?_
    have hJ := hI'.trans (hI2.trans hI3)
    refine WL.val (Val.assignB rfl) rfl ?_
    refine WL.nil ?_
    refine WX.thenC ?_
    refine WC.ret ?_
    refine WX.thenRet ?_
    apply WX.doneP (ks := [])
    case hres => exact RunRes.r1 rfl (ResIs.tmpB rfl)
    case hI => first | exact Mem.le.refl _ | assumption
    exact ⟨rfl, rfl⟩
  · rw [if_neg hf] at hwc
    refine WC.seq ?_
    refine WC.seq ?_
    refine WC.region ?_
    refine WL.val (Val.moveI rfl) rfl ?_
    refine WL.val (Val.moveI rfl) rfl ?_
    refine WL.val (Val.leq rfl rfl (decide_eq_false (by omega))) rfl ?_
    refine WL.nil ?_
    refine WX.thenC ?_
    refine WC.condF rfl ?_
    refine WC.exit ?_
    refine WX.thenExit ?_
    refine WX.thenExit ?_
    refine WX.inHit ?_
    refine WX.thenC ?_
    refine WC.seq ?_
    refine WC.region ?_
    refine WL.val (Val.moveI rfl) rfl ?_
    refine WL.val (Val.eql rfl rfl (beq_eq_false_iff_ne.2 (by omega))) rfl ?_
    refine WL.val (Val.assignB rfl) rfl ?_
    refine WL.nil ?_
    refine WX.thenC ?_
    refine WC.seq ?_
    refine WC.seq ?_
    refine WC.region ?_
    refine WL.val (Val.moveP rfl) rfl ?_
    refine WL.callP [1, 1, 1, 1, 1] rfl rfl (tWrap A (Nd.ch (k + 1) 0) hA 100 0 0 1 _ ⟨by decide, by decide⟩ ⟨by decide, by decide⟩) rfl ?_
    rw [hwc]
    rintro _ I2 _ hI2 ⟨rfl, A1, hb1, rfl, hA1⟩
    rw [← hb1]
    refine WL.nApp ?_
    refine WL.val (Val.assignI rfl) rfl ?_
    refine WL.nil ?_
    refine WX.thenC ?_
    refine WC.seq ?_
    refine WC.region ?_
    refine WL.val (Val.moveI rfl) rfl ?_
    refine WL.val (Val.eql rfl rfl (beq_eq_false_iff_ne.2 (by omega))) rfl ?_
    refine WL.val (Val.moveB rfl) rfl ?_
    refine WL.val (Val.neqB rfl rfl) rfl ?_
    refine WL.val (Val.moveB rfl) rfl ?_
    refine WL.gT rfl rfl ?_
    refine WL.val (Val.moveB rfl) rfl ?_
    refine WL.gT rfl rfl ?_
    refine WL.val (Val.not rfl) rfl ?_
    refine WL.gT rfl rfl ?_
    refine WL.val (Val.moveB rfl) rfl ?_
    refine WL.gT rfl rfl ?_
    refine WL.val (Val.moveI rfl) rfl ?_
    refine WL.gT rfl rfl ?_
    refine WL.val (Val.neq rfl rfl (bne_eq_false_iff_eq.2 (by omega))) rfl ?_
    refine WL.gT rfl rfl ?_
    refine WL.val (Val.pick rfl) rfl ?_
    refine WL.val (Val.pick rfl) rfl ?_
    refine WL.nil ?_
    refine WX.thenC ?_
    refine WC.condF rfl ?_
    refine WC.skip ?_
    refine WX.thenC ?_
    refine WC.seq ?_
    refine WC.seq ?_
    refine WC.region ?_
    refine WL.val (Val.moveB rfl) rfl ?_
    refine WL.nil ?_
    refine WX.thenC ?_
    refine WC.condF rfl ?_
    refine WC.skip ?_
    refine WX.thenC ?_
    refine WC.seq ?_
    refine WC.seq ?_
    refine WC.region ?_
    refine WL.val (Val.moveP rfl) rfl ?_
    refine WL.val (Val.build (cs := [vi 201, .bool true, .slice none 0 0]) rfl) rfl ?_
    (refine WL.buildSlice (by with_unfolding_all exact rfl) rfl (by with_unfolding_all exact rfl) rfl ?_; intro _)
    refine WL.nApp ?_
    rename_i g7
    refine WL.val (Val.build (cs := [vi 200, .bool true, .slice (some ⟨g7, 0, none⟩) 1 1]) rfl) rfl ?_
    refine WL.lit (R := Nd.Rp) (g := g7) (e := 29) (sz := 3) (l := [.mk 201 true []]) (css := [[vi 201, .bool true, .slice none 0 0]]) 6 rfl ⟨Nd.rep_iff.2 ⟨⟨by decide, by decide⟩, _, rfl, LsAt.nil _ _⟩, trivial⟩ rfl (by decide) fun I3 hI3 hls => ?_
    refine WL.callP [1, 1, 1, 1, 1] rfl rfl (tAdd A1 (Nd.wr k) hA1 Nd.two _ 0 0 _ (by decide) ⟨by decide, by decide⟩ hls) rfl ?_
    rw [Nd.add_wr k (by omega)]
    rintro _ I4 _ hI4 ⟨rfl, A2, hb2, rfl, hA2⟩
    rw [← hb2]
    refine WL.nApp ?_
    refine WL.val (Val.neq rfl rfl (bne_eq_false_iff_eq.2 (by omega))) rfl ?_
    refine WL.nil ?_
    refine WX.thenC ?_
    refine WC.condF rfl ?_
    refine WC.skip ?_
    refine WX.thenC ?_
    refine WC.seq ?_
    refine WC.region ?_
    refine WL.val (Val.moveP rfl) rfl ?_
    refine WL.val (Val.moveI rfl) rfl ?_
    refine WL.callP [1, 1, 1, 1, 1] rfl rfl (tMove A2 (Nd.wr2 k) hA2 200 ((k : Int) + 1) 0 _) rfl ?_
    rintro _ I5 _ hI5 ⟨rfl, A3, hb3, rfl, hA3⟩
    rw [Nd.move_wr k (by omega)]
    refine WL.nApp ?_
    have hJ := hI'.trans (hI2.trans (hI3.trans (hI4.trans hI5)))
    by_cases h4 : k + 4 ≤ 64
    · rw [if_pos h4]
      refine WL.val (Val.assignI rfl) rfl ?_
      refine WL.nil ?_
      refine WX.thenC ?_
      refine WC.seq ?_
      refine WC.region ?_
      refine WL.val (Val.moveI rfl) rfl ?_
      refine WL.val (Val.eql rfl rfl (beq_iff_eq.2 (by omega))) rfl ?_
      refine WL.val (Val.moveI rfl) rfl ?_
      refine WL.val (Val.add rfl rfl (wrap_i64 (by omega) (by omega))) rfl ?_
      refine WL.val (Val.leq rfl rfl (decide_eq_true (by omega))) rfl ?_
      refine WL.val (Val.eqlB rfl rfl) rfl ?_
      refine WL.val (Val.moveB rfl) rfl ?_
      refine WL.gT rfl rfl ?_
      refine WL.val (Val.moveI rfl) rfl ?_
      refine WL.gT rfl rfl ?_
      refine WL.val (Val.eql rfl rfl (beq_iff_eq.2 (by omega))) rfl ?_
      refine WL.gT rfl rfl ?_
      refine WL.val (Val.moveB rfl) rfl ?_
      refine WL.gF rfl rfl rfl rfl ?_
      refine WL.gF rfl rfl rfl rfl ?_
      refine WL.gT rfl rfl ?_
      refine WL.val (Val.pick rfl) rfl ?_
      refine WL.val (Val.pick rfl) rfl ?_
      refine WL.val (Val.moveB rfl) rfl ?_
      refine WL.gT rfl rfl ?_
      refine WL.callP [] rfl rfl (tAwake _) rfl ?_
      rintro _ I6 _ hI6 ⟨rfl, rfl⟩
      refine WL.nApp ?_
      have hJ6 := hJ.trans hI6
      refine WL.val (Val.pick rfl) rfl ?_
      refine WL.val (Val.assignB rfl) rfl ?_
      refine WL.nil ?_
      refine WX.thenC ?_
      refine WC.ret ?_
      apply WX.doneP (ks := [])
      case hres => exact RunRes.r1 rfl (ResIs.tmpB rfl)
      case hI => first | exact Mem.le.refl _ | assumption
      exact ⟨rfl, rfl⟩
    · rw [if_neg h4]
      refine WL.val (Val.assignI rfl) rfl ?_
      refine WL.nil ?_
      refine WX.thenC ?_
      refine WC.seq ?_
      refine WC.region ?_
      refine WL.val (Val.moveI rfl) rfl ?_
      refine WL.val (Val.eql rfl rfl (beq_eq_false_iff_ne.2 (by omega))) rfl ?_
      refine WL.val (Val.moveI rfl) rfl ?_
      refine WL.val (Val.add rfl rfl (wrap_i64 (by omega) (by omega))) rfl ?_
      refine WL.val (Val.leq rfl rfl (decide_eq_false (by omega))) rfl ?_
      refine WL.val (Val.eqlB rfl rfl) rfl ?_
      refine WL.val (Val.moveB rfl) rfl ?_
      refine WL.gT rfl rfl ?_
      refine WL.val (Val.moveI rfl) rfl ?_
      refine WL.gT rfl rfl ?_
      refine WL.val (Val.eql rfl rfl (beq_eq_false_iff_ne.2 (by omega))) rfl ?_
      refine WL.gT rfl rfl ?_
      refine WL.val (Val.moveB rfl) rfl ?_
      refine WL.gT rfl rfl ?_
      refine WL.val (Val.moveI rfl) rfl ?_
      refine WL.gT rfl rfl ?_
      refine WL.val (Val.eql rfl rfl (beq_iff_eq.2 (by omega))) rfl ?_
      refine WL.gT rfl rfl ?_
      refine WL.val (Val.pick rfl) rfl ?_
      refine WL.val (Val.pick rfl) rfl ?_
      refine WL.val (Val.moveB rfl) rfl ?_
      refine WL.gT rfl rfl ?_
      refine WL.callP [] rfl rfl (tAwake _) rfl ?_
      rintro _ I6 _ hI6 ⟨rfl, rfl⟩
      refine WL.nApp ?_
      have hJ6 := hJ.trans hI6
      refine WL.val (Val.pick rfl) rfl ?_
      refine WL.val (Val.assignB rfl) rfl ?_
      refine WL.nil ?_
      refine WX.thenC ?_
      refine WC.ret ?_
      apply WX.doneP (ks := [])
      case hres => exact RunRes.r1 rfl (ResIs.tmpB rfl)
      case hI => first | exact Mem.le.refl _ | assumption
      exact ⟨rfl, rfl⟩
end Go.Proofs.Ytfdeckdongonnab
