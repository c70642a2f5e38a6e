/-
 Tree, the program's: Move.
-/
import Derived.Test.YtggcpoleklcmkaaGreatDoorX2
import Derived.Test.YtggcpoleklcmkaaGreatDoorX6
import Derived.Test.YtggcpoleklcmkaaGreatDoorX3
set_option linter.unusedVariables false
set_option linter.unusedSimpArgs false
set_option maxRecDepth 100000
set_option maxHeartbeats 8000000
namespace Go.Tr
open Go.Sl Go.Ls
section
variable {A : Ar} {top : Nd}
theorem Abs.cutAt (h : Abs A top) {y : Nat} {ks : List Int} {kv : Value} {top1 n : Nd} {i p : Nat} (hy : y < A.cells.length) (c : Cutted A (A.setKids y ks kv) top top1 i n y) (hp : p ∈ post A 0 top) (hpn : p ∉ post A i n) :
  ∃ pp qn R RO, Foc (A.setKids y ks kv) (-1) 0 top1 p pp qn R RO ∧ qn.id = A.idAt p ∧ Nd.find (A.idAt p) top1 = some qn ∧ (∀ l, Ch A p l → Nd.depth (A.idAt p) top1 = (l.length : Int) - 1) ∧ ∃ hpl : p < (A.setKids y ks kv).cells.length, ((A.setKids y ks kv).cells[p]).kids.length = qn.kids.length := by
 obtain ⟨od1, _, _⟩ := c.od h
 have hp1 : p ∈ post (A.setKids y ks kv) 0 top1 := (List.mem_append.1 (c.perm.mem_iff.2 hp)).resolve_right hpn
 obtain ⟨pp, qn, R, RO, f⟩ := c.tr.focus od1 hp1
 have hid : qn.id = A.idAt p := by rw [← f.id, c.idAt]
 obtain ⟨hpl, _, _, _, hks⟩ := f.tr.ex
 refine ⟨pp, qn, R, RO, f, hid, by rw [← hid]; exact f.find, fun l hl => ?_, hpl, hks.len⟩
 have hl2 : Ch (A.setKids y ks kv) p l := hl.keep c.len fun j h1 h2 => by
  have := setKids_get A y ks kv j
  rw [List.getElem?_eq_getElem h1, List.getElem?_eq_getElem h2] at this
  split at this
  ·injection this with this; rw [this]
  ·injection this with this; rw [this]
 obtain ⟨h0, _, _, h3, _⟩ := c.tr.ex
 obtain ⟨l', k1, k2⟩ := c.tr.up od1 hp1 (Ch.top h0 (by rw [h3]; decide))
 rw [c.idAt] at k2
 rw [hl2.eq k1, k2, List.length_append]
 simp only [List.length_singleton]
 omega
theorem Tr.has {p : Int} {i q : Nat} {n : Nd} (h : Abs A top) (ht : Tr A p i n) (hin : ∀ j ∈ post A i n, j ∈ post A 0 top) (hq : q ∈ post A 0 top) : (Nd.find (A.idAt q) n).isSome = true ↔ q ∈ post A i n := by
 rw [Nd.find_some]
 constructor
 ·intro hm
  obtain ⟨j, hj, e⟩ := ht.of_mem hm
  rw [← h.tr.inj h.od (hin j hj) hq e]
  exact hj
 ·exact fun hm => ht.mem hm
end
end Go.Tr
namespace Go.Proofs.YtggcpoleklcmkaaGreatDoor
open Go.Sl Go.Ls Go.Tr
attribute [local irreducible] WC WL WX WK WA WAK Val Ctr RunRes ResIs Rd At sl box pt Exit.then Exit.inBlock bodyPost Code.wp wpList
theorem tMove (A : Ar) (top : Nd) (hA : Abs A top) (i parent index : Int) (I : Mem) :
  Ctr Tryz.prog 113 [ptr A.b, vi i, vi parent, vi index] I A.hp (RetA A (Nd.move top i parent index)) := by
 have hsle := hA.size_le
 have hcap := hA.cap
 refine Ctr.intro Tryz.func113 rfl rfl rfl fun E F => ?_
 refine jS (jf rfl (jN (jd rfl (ja rfl (WL.callK [1, 1, 1, 1, 1] rfl rfl rfl (tInner A i _) rfl ?_)))))
 rintro _ rfl
 by_cases h0 : i = 0
 ·rw [if_pos h0]
  refine je rfl (jm (jq rfl rfl) (jm (jq rfl rfl) (jf rfl (jf rfl (jM (jB (jS (ja rfl (jJ rfl rfl (jM (jF (jS (ja rfl (jf rfl (jM (jR (jU ?_)))))))))))))))))
  refine jP [0, 0, 0, 0, 0] (jr1 rfl (jtI rfl)) ?_
  rw [Nd.move, Nd.remove, if_pos h0]
  exact ⟨rfl, A, rfl, rfl, hA⟩
 rw [if_neg h0]
 rcases hA.cases i with ⟨hat, hn⟩ | ⟨q, hat, hq, hid, hm⟩
 ·rw [hat]
  simp only
  refine je rfl (jm (jq rfl rfl) (jm (jq rfl rfl) (jf rfl (jf rfl (jM (jB (jS (ja rfl (jJ rfl rfl (jM (jF (jS (ja rfl (jf rfl (jM (jR (jU ?_)))))))))))))))))
  refine jP [0, 0, 0, 0, 0] (jr1 rfl (jtI rfl)) ?_
  rw [Nd.move, Nd.remove, if_neg h0, Nd.find_none _ _ hn]
  exact ⟨rfl, A, rfl, rfl, hA⟩
 rw [hat]
 simp only
 have hq0 : q ≠ 0 := fun e => h0 (by rw [← hid]; exact (hA.ne0 hq).2 e)
 obtain ⟨y, k, yp, ny, n, R, RO, hk, hlies, f, hkn, htq, hidn, hfind, hwhr, hfy, hrem⟩ := hA.node hq hq0
 rw [hid] at hrem
 have hmv : Nd.move top i parent index = (match Nd.find parent top with
  | none => (top, 31)
  | some p => if p.grp = false then (top, 33) else if (Nd.find parent n).isSome = true then (top, 34)
   else if index < 0 ∨ (((Nd.find parent (Nd.with_ ny.id (ny.kids.take k ++ ny.kids.drop (k + 1)) top)).getD Nd.zero).kids.length : Int) < index then (top, 30)
   else if 64 < Nd.depth parent (Nd.with_ ny.id (ny.kids.take k ++ ny.kids.drop (k + 1)) top) + n.height then (top, 35)
   else (Nd.with_ parent (((Nd.find parent (Nd.with_ ny.id (ny.kids.take k ++ ny.kids.drop (k + 1)) top)).getD Nd.zero).kids.take index.toNat ++ (n :: ((Nd.find parent (Nd.with_ ny.id (ny.kids.take k ++ ny.kids.drop (k + 1)) top)).getD Nd.zero).kids.drop index.toNat)) (Nd.with_ ny.id (ny.kids.take k ++ ny.kids.drop (k + 1)) top), 0)) := by
  rw [Nd.move, hrem]
  rfl
 rw [hmv]
 have hl := hlies
 obtain ⟨hql, hyl, hpar, e2, e3⟩ := hl
 have hc := Ar.c2 hql
 rw [hpar] at hc
 refine je rfl (jm (jq rfl rfl) (jm (jq rfl rfl) (jf rfl (jf rfl (jM (jB (jS (ja rfl (jz rfl rfl (jM (jE (jV (jK (jd rfl (ja rfl (WL.callK [1, 1, 1, 1, 1] rfl rfl rfl (tGroup A parent _ hA.ok) rfl ?_))))))))))))))))
 rintro _ rfl
 rcases hA.grp parent with ⟨hg, hfn⟩ | ⟨p, qp, np, R9, RO9, hpl, hatp, hpm, hnp, hfindp, fp, hcg, hg⟩
 ·rw [hg]
  refine je rfl (jm (jq rfl rfl) (jm (jq rfl rfl) (jf rfl (jf rfl (jM (jB (jS (ja rfl (jJ rfl rfl (jM (jF (jS (ja rfl (jf rfl (jM (jR (jU ?_)))))))))))))))))
  refine jP [0, 0, 0, 0, 0] (jr1 rfl (jtI rfl)) ?_
  rw [hfn]
  exact ⟨rfl, A, rfl, rfl, hA⟩
 rw [hg]
 rw [hfindp]
 cases hng : np.grp
 ·skip
  refine je rfl (jm (jq rfl rfl) (jm (jq rfl rfl) (jf rfl (jf rfl (jM (jB (jS (ja rfl (jm (Val.neq rfl rfl rfl) ?_)))))))))
  refine jM (jF (jS (ja rfl (jf rfl (jM (jR (jU ?_)))))))
  refine jP [0, 0, 0, 0, 0] (jr1 rfl (jtI rfl)) ?_
  simp only [hng, if_true]
  exact ⟨rfl, A, rfl, rfl, hA⟩
 simp only [if_true, hng, Bool.true_eq_false, if_false]
 obtain ⟨l, hl, hdep, hlp⟩ := hA.up hpm
 have hidp : A.idAt p = parent := by rw [fp.id, hnp]
 rw [hidp] at hdep
 have hdle := (Nd.depth_le parent top).1
 obtain ⟨qp2, n2, R2, RO2, fq⟩ := hA.foc hq
 have hn2 : n2 = n := fq.tr.uniq htq
 subst hn2
 have hin : ∀ j ∈ post A q n2, j ∈ post A 0 top := fun j hj => fq.mem hj
 have hhas := Tr.has hA htq hin hpm
 rw [hidp] at hhas
 have hbel := hA.below hpm hl fq
 have hns := fq.size
 have hhl := Nd.height_le n2
 refine je rfl (jm (jq rfl rfl) (jm (jq rfl rfl) (jf rfl (jf rfl (jM (jB (jS (ja rfl (jz rfl rfl (jM (jE (jV (jA (jB (jS (jd rfl (ja rfl (ja rfl (WL.callK [1, 1, 1, 1, 1] rfl rfl rfl (tBelow A p q l _ hA.ok hl) rfl ?_)))))))))))))))))))
 rintro _ ⟨b, rfl, hb⟩
 by_cases hin2 : p ∈ post A q n2
 ·have : b = true := hb.2 (hbel.2 hin2)
  subst this
  refine jM (jF (jS (jf rfl (jM (jR (jU ?_))))))
  refine jP [0, 0, 0, 0, 0] (jr1 rfl (jtI rfl)) ?_
  rw [if_pos (hhas.2 hin2)]
  exact ⟨rfl, A, rfl, rfl, hA⟩
 have hbf : b = false := by cases b with | false => rfl | true => exact absurd (hbel.1 (hb.1 rfl)) hin2
 subst hbf
 rw [if_neg (fun e => hin2 (hhas.1 e))]
 obtain ⟨_, hcut0⟩ := hA.cut hlies f hk hkn htq (.slice none 0 0)
 obtain ⟨pp, qn, R3, RO3, f3, hqid, hqf, hqd, hpl3, hql3⟩ := hA.cutAt hyl hcut0 hpm hin2
 rw [hidp] at hqid hqf hqd
 have hqd := hqd l hl
 rw [hqf]
 simp only [Option.getD_some]
 have hkl : k < (A.cells[y]).kids.length := (List.getElem?_eq_some_iff.1 e2).1
 have hroom : ((A.cells[p]).kids.length : Int) - (if y = p then 1 else 0) = qn.kids.length := by
  by_cases hyp : y = p
  ·subst hyp
   obtain ⟨_, e⟩ := setKids_at A y ((A.cells[y]).kids.take k ++ (A.cells[y]).kids.drop (k + 1)) (.slice none 0 0) hyl
   rw [e] at hql3
   simp only [List.length_append, List.length_take, List.length_drop] at hql3
   rw [if_pos rfl]
   omega
  ·have := setKids_ne A y ((A.cells[y]).kids.take k ++ (A.cells[y]).kids.drop (k + 1)) (.slice none 0 0) (Ne.symm hyp)
   rw [List.getElem?_eq_getElem hpl3, List.getElem?_eq_getElem hpl] at this
   injection this with this
   rw [this] at hql3
   rw [if_neg hyp, hql3]
   omega
 have hqb : qn.kids.length ≤ 1000000000 := by have := hA.ok.kidl _ (List.getElem_mem hpl); split at hroom <;> omega
 have hpb : (A.cells[p]).kids.length ≤ 1000000000 := hA.ok.kidl _ (List.getElem_mem hpl)
 generalize htop : Nd.with_ ny.id (ny.kids.take k ++ ny.kids.drop (k + 1)) top = top1 at *
 have hc3 := Ar.c3 hpl
 refine WL.rowOpen 5 p rfl (Ar.row hpl) fun ra rc hkvp _ => ?_
 rw [hkvp] at hc3
 refine jM (jE (jV (jK (jd rfl (jm (jr rfl) (jm (jn rfl) (jm (jp 1 rfl rfl rfl) (ja rfl (jm (jZ rfl rfl) (jm (jn rfl) (jm (Val.loadS rfl (Rd.sl1 2 rfl (by assumption))) ?_)))))))))))
 refine jm (jo rfl) (jf rfl (jM (jB (jS (jd rfl (jm (jr rfl) (jm (jn rfl) (jm (jp 1 rfl rfl rfl) (ja rfl (jm (jZ rfl rfl) (jm (jn rfl) (jm (Val.loadS rfl (Rd.sl1 2 rfl (by assumption))) ?_))))))))))))
 refine ja rfl (jm (Val.eql rfl rfl rfl) ?_)
 refine jM ?_
 refine WC.cutP (fun ρ' I' L' => I' = I ∧ L' = F :: A.hp ∧ ρ' 0 = ptr A.b ∧ ρ' 3 = vi index ∧ ρ' 9 = vi q ∧ ρ' 11 = vi p ∧ ρ' 12 = vi qn.kids.length) ?_ ?_
 ·refine WC.cond rfl (fun ht => ?_) (fun hf => ?_)
  ·have hyp : y = p := by have := beq_iff_eq.1 ht; omega
   rw [if_pos hyp] at hroom
   refine jD (ja rfl (jm (Val.sub rfl rfl (wrap_i64 (by omega) (by omega))) ?_))
   refine jf rfl (jC ?_)
   refine WX.thenK (WK.meet ⟨rfl, rfl, rfl, rfl, rfl, rfl, ?_⟩)
   show vi _ = vi _
   rw [hroom]
  ·have hyp : y ≠ p := by have := beq_eq_false_iff_ne.1 hf; omega
   rw [if_neg hyp] at hroom
   refine jV ?_
   refine WX.thenK (WK.meet ⟨rfl, rfl, rfl, rfl, rfl, rfl, ?_⟩)
   show vi _ = vi _
   congr 1
   try omega
 rintro ρ' I' L' ⟨rfl, rfl, h0', h3', h9', h11', h12'⟩
 rw [← upd_self h12', ← upd_self h11', ← upd_self h9', ← upd_self h3', ← upd_self h0']
 clear h12' h11' h9' h3' h0'
 by_cases hi0 : index < 0
 ·skip
  refine jB (WC.block (jS (ja rfl (jy rfl rfl (jb rfl (jH (jH (jH (jk rfl (jg rfl (jM (jF (jS (jf rfl (jM (jR (WX.inRet (jU ?_))))))))))))))))))
  refine jP [0, 0, 0, 0, 0] (jr1 rfl (jtI rfl)) ?_
  rw [if_pos (.inl hi0)]
  exact ⟨rfl, A, rfl, rfl, hA⟩
 obtain ⟨m, rfl⟩ := Int.eq_ofNat_of_zero_le (by omega : 0 ≤ index)
 by_cases hi1 : (qn.kids.length : Int) < m
 ·skip
  refine jB (WC.block (jS (ja rfl (jx rfl rfl (jb rfl (jG (ja rfl (jG (ja rfl (jG (jO rfl rfl (jk rfl (jg rfl (jM (jF (jS (jf rfl (jM (jR (WX.inRet (jU ?_)))))))))))))))))))))
  refine jP [0, 0, 0, 0, 0] (jr1 rfl (jtI rfl)) ?_
  rw [if_pos (.inr hi1)]
  exact ⟨rfl, A, rfl, rfl, hA⟩
 have hn01 : ¬ ((m : Int) < 0 ∨ (qn.kids.length : Int) < (m : Int)) := by omega
 rw [if_neg hn01]
 refine jB (WC.block (jS (ja rfl (jx rfl rfl (jb rfl (jG (ja rfl (jG (ja rfl (jG (jL rfl rfl (jk rfl (jg rfl (jM (jE (jS (jd rfl (ja rfl (WL.callK [1, 1, 1, 1, 1] rfl rfl rfl (tDepthP A p l _ hA.ok hl (by omega)) rfl ?_)))))))))))))))))))
 rintro _ rfl
 refine jd rfl (ja rfl (WL.callK [1, 1, 1, 1, 1] rfl rfl rfl (tHeight A hA.ok _ n2 (Nat.le_refl _) _ q _ (by omega) htq) rfl ?_))
 rintro _ rfl
 rw [hqd]
 by_cases hdp : 64 < (l.length : Int) - 1 + n2.height
 ·skip
  refine jX rfl rfl (jO rfl rfl (jg rfl (jM (jF (jS (jf rfl (jM (jR (WX.inRet (jU ?_))))))))))
  refine jP [0, 0, 0, 0, 0] (jr1 rfl (jtI rfl)) ?_
  rw [if_pos hdp]
  exact ⟨rfl, A, rfl, rfl, hA⟩
 rw [if_neg hdp]
 refine jX rfl rfl (jL rfl rfl (jg rfl (jM (jE (jV (WX.inNormal (jK (jd rfl (ja rfl (WL.callAll rfl rfl (tCut A q y k _ hA.ok hql hpar hyl e2 e3) rfl ?_))))))))))
 rintro _ I9 _ hI2 ⟨rfl, rfl, kv, rfl⟩
 obtain ⟨_, hcut⟩ := hA.cut hlies f hk hkn htq kv
 rw [htop] at hcut
 obtain ⟨pp', qn', R4, RO4, f4, hqid', hqf', _, hpl4, hql4⟩ := hA.cutAt hyl hcut hpm hin2
 rw [hidp] at hqf'
 have hqq : qn' = qn := by rw [hqf] at hqf'; injection hqf' with e; exact e.symm
 subst hqq
 generalize hBB : A.setKids y ((A.cells[y]).kids.take k ++ (A.cells[y]).kids.drop (k + 1)) kv = B at *
 have hBb : B.b = A.b := by rw [← hBB]; rfl
 rw [← hBb]
 have hqB : q < B.cells.length := by rw [hcut.len]; exact hql
 have hpq : p ≠ q := fun e => hin2 (e ▸ self_post A q n2)
 have hDlen := setPar_len B q (p : Int)
 have hDp : (B.setPar q (p : Int)).cells[p]? = B.cells[p]? := by rw [setPar_get, if_neg (Ne.symm hpq)]
 have hpD : p < (B.setPar q (p : Int)).cells.length := by rw [hDlen]; exact hpl4
 have heD : (B.setPar q (p : Int)).cells[p] = B.cells[p] := by
  rw [List.getElem?_eq_getElem hpD, List.getElem?_eq_getElem hpl4] at hDp; injection hDp
 have hDhp := Ar.setPar_hp B q (p : Int) hqB
 have hDf : (B.setPar q (p : Int)).free = B.free := rfl
 have hDa : (B.setPar q (p : Int)).at_ = B.at_ := rfl
 have hDc : (B.setPar q (p : Int)).cnt = B.cnt := rfl
 refine jN (jd rfl (jm (jr rfl) (jm (jn rfl) (jm (jp 1 rfl rfl rfl) (ja rfl (ja rfl (jm (jZ rfl rfl) (jm (jn rfl) (WL.storeSl 2 rfl rfl rfl rfl (by show 0 + (q : Int).toNat * 4 + 2 + 1 ≤ B.cells.length * 4; rw [Int.toNat_natCast]; omega) ?_)))))))))
 refine WL.nSet ?_
 refine jM (jB (WC.conv (L' := F :: (B.setPar q (p : Int)).hp) (fun w h => by rw [hDhp]; exact h) ?_))
 have hDb : (B.setPar q (p : Int)).b = B.b := rfl
 rw [← hDb]
 have hc3D := Ar.c3 hpD
 have hrowD := Ar.row hpD
 generalize hDD : B.setPar q (p : Int) = D at *
 have hklD : (D.cells[p]).kids.length = qn'.kids.length := by rw [heD]; exact hql4
 refine WC.rowOpen 5 p rfl hrowD fun rb rd hkvD _ => ?_
 rw [hkvD] at hc3D hrowD
 refine j8 19 [1, 1] rfl (jT 0 rfl (Val.moveP rfl) (jT 1 rfl (jr rfl) (jT 2 rfl (jn rfl) (jT 3 rfl (jp 0 rfl rfl rfl) (jT 4 rfl (Val.moveI rfl) (jT 5 rfl (Val.moveP rfl) (jT 6 rfl (jr rfl) (jT 7 rfl (jn rfl) (jT 8 rfl (jp 0 rfl rfl rfl) (jT 9 rfl (Val.moveI rfl) (jT 10 rfl (jZ rfl rfl) (jT 11 rfl (jn rfl) (jT 12 rfl (Val.loadS rfl (Rd.sl1 1 rfl hc3D)) ?_)))))))))))))
 refine jT 13 rfl (Val.moveI rfl) (jT 14 rfl (Val.moveI rfl) (j5 15 rfl (WL.buildSlice (by with_unfolding_all exact rfl) rfl (by with_unfolding_all exact rfl) rfl (fun _ => ?_))))
 rename_i g8
 refine jW ?_
 refine jC (j7 [1, 1] rfl (j5 16 rfl (WL.rowTake 5 p rfl hrowD ?_)))
 refine WL.boxSl (xs := [vi (q : Int)]) (n := 1) (sz := 1) 7 rfl rfl (by decide) ?_
 refine WL.callP [0, 6] rfl rfl (sInsert (D.cells[p]).kids [(q : Int)] m (.slice rb (D.cells[p]).kids.length rd) (.slice (some ⟨g8, 0, none⟩) 1 1) _ (by omega) Nat.zero_lt_one (by rw [hklD]; simp only [List.length_singleton]; omega)) rfl ?_
 rintro rv _ _ hI4 ⟨rfl, rfl⟩
 refine jW ?_
 have hlen : ((D.cells[p]).kids.take m ++ [(q : Int)] ++ (D.cells[p]).kids.drop m).length = (D.cells[p]).kids.length + [(q : Int)].length := by
  simp only [List.length_append, List.length_take, List.length_drop]; omega
 rw [← hlen]
 refine WL.conv (fun w h => h.sub [6, 0, 0, 0, 0, 0, 0] rfl) ?_
 refine WL.rowPut 5 p rfl (by simpa using hpD) ?_
 refine WL.nSet ?_
 refine WL.rowOpen 5 p rfl (List.getElem?_set_self (by simpa using hpD)) fun ra2 rc2 hr _ => ?_
 subst hr
 refine jC (j7 [1, 1] rfl (j5 17 rfl (jm (jZ rfl rfl) (jC (j7 [1, 1] rfl (j5 18 rfl (jm (jn rfl) (jC (j7 [1, 1] rfl (j5 19 rfl (WL.storeSl 2 rfl rfl rfl rfl (by show 0 + (p : Int).toNat * 4 + 3 + 1 ≤ D.cells.length * 4; rw [Int.toNat_natCast]; omega) ?_)))))))))))
 refine WL.nSet ?_
 refine jC (WK.anyLast (WA.done (by kernel_rfl) (jK (jf rfl (jM (jR ?_))))))
 refine jP [0, 0, 0, 0, 0] (jr1 rfl (jtI rfl)) ?_
 refine ⟨rfl, D.setKids p ((D.cells[p]).kids.take m ++ [(q : Int)] ++ (D.cells[p]).kids.drop m) (.slice ra2 ((D.cells[p]).kids.take m ++ [(q : Int)] ++ (D.cells[p]).kids.drop m).length rc2), ?_, ?_, ?_⟩
 ·exact hDb.trans hBb
 ·rw [Ar.setKids_hp D p _ _ hpD]; rfl
 ·rw [← hqid, Int.toNat_natCast]
  refine hA.graft hcut f4 (by omega) (by rw [Ar.setKids_len, hDlen]) hDf hDa hDc (.slice ra2 ((D.cells[p]).kids.take m ++ [(q : Int)] ++ (D.cells[p]).kids.drop m).length rc2) ?_ hpl4 ?_ ?_
  ·rw [setKids_ne _ _ _ _ (Ne.symm hpq), ← hDD, setPar_get, if_pos rfl]
  ·rw [setKids_get, if_pos rfl, hDp, List.getElem?_eq_getElem hpl4, heD]; rfl
  ·intro j h1 h2
   rw [setKids_ne _ _ _ _ h2, ← hDD, setPar_get, if_neg (Ne.symm h1)]
end Go.Proofs.YtggcpoleklcmkaaGreatDoor

namespace Go.Tr
open Go.Sl Go.Ls
theorem Trs.repar {A C : Ar} {p p' : Int} : ∀ {l : List Int} {ns : List Nd}, Trs A p l ns → (posts A l ns).Nodup → (∀ x : Nat, (x : Int) ∈ l → C.cells[x]? = (A.cells[x]?).map (fun c => { c with par := p' })) → (∀ j ∈ posts A l ns, (j : Int) ∉ l → C.cells[j]? = A.cells[j]?) → Trs C p' l ns ∧ posts C l ns = posts A l ns
 | [], [], _, _, _, _ => ⟨Trs.nil _ _, by simp [posts]⟩
 | k :: l, n :: ns, h, hn, hp, ho => by
  rw [Trs] at h
  obtain ⟨⟨q, rfl, t1⟩, t2⟩ := h
  rw [posts_cons] at hn ho
  obtain ⟨n1, n2, n3⟩ := List.nodup_append.1 hn
  have hql : (q : Int) ∉ l := fun hm => n3 q (self_post A q n) q (mem_l t2 hm) rfl
  obtain ⟨a1, a2⟩ := Tr.repar (C := C) (p' := p') t1 n1 (hp q (List.mem_cons_self)) (fun j hj hne => ho j (List.mem_append.2 (.inl hj)) (fun hm => by
   rcases List.mem_cons.1 hm with e | hm
   ·exact hne (by omega)
   ·exact n3 j hj j (mem_l t2 hm) rfl))
  obtain ⟨b1, b2⟩ := Trs.repar (C := C) (p' := p') t2 n2 (fun x hx => hp x (List.mem_cons_of_mem _ hx)) (fun j hj hne => ho j (List.mem_append.2 (.inr hj)) (fun hm => by
   rcases List.mem_cons.1 hm with e | hm
   ·have : j = q := by omega
    subst this
    exact n3 j (self_post A j n) j hj rfl
   ·exact hne hm))
  exact ⟨Trs.cons a1 b1, by rw [posts_cons, posts_cons, a2, b2]⟩
 | [], _ :: _, h, _, _, _ => by rw [Trs] at h; exact h.elim
 | _ :: _, [], h, _, _, _ => by rw [Trs] at h; exact h.elim
theorem split3 {A : Ar} {p : Int} {l : List Int} {ns : List Nd} (h : Trs A p l ns) (a c : Nat) : Trs A p (l.take a) (ns.take a) ∧ Trs A p ((l.drop a).take c) ((ns.drop a).take c) ∧ Trs A p (l.drop (a + c)) (ns.drop (a + c)) ∧ posts A l ns = posts A (l.take a) (ns.take a) ++ (posts A ((l.drop a).take c) ((ns.drop a).take c) ++ posts A (l.drop (a + c)) (ns.drop (a + c))) := by
 obtain ⟨s1, s2, s3⟩ := Trs.split a h
 obtain ⟨r1, r2, r3⟩ := Trs.split c s2
 rw [List.drop_drop, List.drop_drop] at r2 r3
 exact ⟨s1, r1, r2, by rw [s3, r3]⟩
theorem orders3 (ns : List Nd) (a c : Nat) : Nd.orders ns = Nd.orders (ns.take a) ++ (Nd.orders ((ns.drop a).take c) ++ Nd.orders (ns.drop (a + c))) := by
 rw [← Nd.orders_app, ← Nd.orders_app, ← List.drop_drop, List.take_append_drop, List.take_append_drop]
section
variable {A : Ar} {top : Nd}
theorem Abs.wrap (h : Abs A top) {q : Nat} {qp : Int} {np : Nd} {R : List Nat} {RO : List Int} (f : Foc A (-1) 0 top q qp np R RO) {id : Int} (hx : id ∉ top.order ∧ I64 id) (hsz : top.size + 1 ≤ 65537)
  {B C : Ar} {i a c : Nat} (hL : Laid A B (q : Int) i (.mk id true [])) (hqA : q < A.cells.length) (kv kv' : Value)
  (hlen : C.cells.length = B.cells.length) (hfree : C.free = B.free) (hat : C.at_ = B.at_) (hcnt : C.cnt = B.cnt)
  (hCi : C.cells[i]? = (B.cells[i]?).map (fun x => { x with kids := ((A.cells[q]).kids.drop a).take c, kv := kv }))
  (hCk : ∀ x : Nat, (x : Int) ∈ ((A.cells[q]).kids.drop a).take c → C.cells[x]? = (A.cells[x]?).map (fun x => { x with par := (i : Int) }))
  (hCp : C.cells[q]? = some { A.cells[q] with kids := (A.cells[q]).kids.take a ++ [(i : Int)] ++ (A.cells[q]).kids.drop (a + c), kv := kv' })
  (hCo : ∀ j : Nat, j ≠ i → j ≠ q → (j : Int) ∉ ((A.cells[q]).kids.drop a).take c → C.cells[j]? = B.cells[j]?) :
  Abs C (Nd.with_ np.id (np.kids.take a ++ (.mk id true ((np.kids.drop a).take c) :: np.kids.drop (a + c))) top) := by
 have hpn := h.pnd
 obtain ⟨_, hpq, hps, hqp⟩ := f.posts_dis hpn
 have hlay := h.layOk (n := .mk id true []) (by simp [Nd.order, Nd.orders]) (fun x hm => by
  simp only [Nd.order, Nd.orders, List.mem_singleton] at hm; rw [hm]; exact hx.1) (by simp [Nd.size, Nd.sizes])
 have hnB := hL.nodup hlay.frb hlay.fnd
 obtain ⟨hiB, b1, b2, b3, b4⟩ := hL.tr.ex
 have hkB : (B.cells[i]).kids = [] := by
  have := b4.len
  exact List.eq_nil_of_length_eq_zero this
 have hpi : post B i (.mk id true []) = [i] := by
  rw [(post_eq hL.tr).2, hkB]; rfl
 have hold : ∀ j ∈ post A 0 top, j ≠ i := fun j hj e => by
  have hm : i ∈ post B i (.mk id true []) := self_post B i _
  rcases mem_news.1 (hL.perm.mem_iff.1 (List.mem_append.2 (.inl hm))) with hf | hr
  ·exact dis_of_nodup h.nd (e ▸ hj) hf
  ·have := h.tr.lt j hj; omega
 have hBA : ∀ j ∈ post A 0 top, B.cells[j]? = A.cells[j]? := fun j hj => hL.out j (h.tr.lt j hj) (by rw [hpi, List.mem_singleton]; exact hold j hj)
 have hqm : q ∈ post A 0 top := f.mem (self_post A q np)
 obtain ⟨_, hid, hgr, hpar, hks⟩ := f.tr.ex
 obtain ⟨s1, s2, s3, s4⟩ := split3 hks a c
 have hin : ∀ j ∈ posts A (A.cells[q]).kids np.kids, j ∈ post A 0 top := fun j hj => f.mem (by rw [hpq]; exact List.mem_append.2 (.inl hj))
 have hne : ∀ j ∈ posts A (A.cells[q]).kids np.kids, j ≠ q := fun j hj e => hqp (e ▸ hj)
 have hps' := hps
 rw [s4] at hps'
 obtain ⟨n1, n23, n1d⟩ := List.nodup_append.1 hps'
 obtain ⟨n2, n3, n2d⟩ := List.nodup_append.1 n23
 -- places that are not in the segment's roots
 have hroot : ∀ j : Nat, (j : Int) ∈ ((A.cells[q]).kids.drop a).take c → j ∈ posts A (((A.cells[q]).kids.drop a).take c) ((np.kids.drop a).take c) := fun j hj => mem_l s2 hj
 have hsame : ∀ j ∈ post A 0 top, j ≠ q → (j : Int) ∉ ((A.cells[q]).kids.drop a).take c → C.cells[j]? = A.cells[j]? := fun j hj hne hno => (hCo j (hold j hj) hne hno).trans (hBA j hj)
 have m1 : ∀ j ∈ posts A ((A.cells[q]).kids.take a) (np.kids.take a), j ∈ posts A (A.cells[q]).kids np.kids := fun j hj => by rw [s4]; exact List.mem_append.2 (.inl hj)
 have m2 : ∀ j ∈ posts A (((A.cells[q]).kids.drop a).take c) ((np.kids.drop a).take c), j ∈ posts A (A.cells[q]).kids np.kids := fun j hj => by rw [s4]; exact List.mem_append.2 (.inr (List.mem_append.2 (.inl hj)))
 have m3 : ∀ j ∈ posts A ((A.cells[q]).kids.drop (a + c)) (np.kids.drop (a + c)), j ∈ posts A (A.cells[q]).kids np.kids := fun j hj => by rw [s4]; exact List.mem_append.2 (.inr (List.mem_append.2 (.inr hj)))
 obtain ⟨t1, u1⟩ := Trs.keep (A' := C) _ _ s1 (fun j hj => hsame j (hin j (m1 j hj)) (hne j (m1 j hj)) (fun hm => n1d j hj j (List.mem_append.2 (.inl (hroot j hm))) rfl))
 obtain ⟨t3, u3⟩ := Trs.keep (A' := C) _ _ s3 (fun j hj => hsame j (hin j (m3 j hj)) (hne j (m3 j hj)) (fun hm => n2d j (hroot j hm) j hj rfl))
 obtain ⟨t2, u2⟩ := Trs.repar (C := C) (p' := (i : Int)) s2 n2 hCk (fun j hj hno => hsame j (hin j (m2 j hj)) (hne j (m2 j hj)) hno)
 have hiC : i < C.cells.length := by rw [hlen]; exact hiB
 have eCi : C.cells[i] = { B.cells[i] with kids := ((A.cells[q]).kids.drop a).take c, kv := kv } := by
  rw [List.getElem?_eq_getElem hiC, List.getElem?_eq_getElem hiB] at hCi; injection hCi
 have hqC : q < C.cells.length := by
  rw [hlen]; exact Nat.lt_of_lt_of_le hqA hL.le
 have eCq : C.cells[q] = { A.cells[q] with kids := (A.cells[q]).kids.take a ++ [(i : Int)] ++ (A.cells[q]).kids.drop (a + c), kv := kv' } := by
  rw [List.getElem?_eq_getElem hqC] at hCp; injection hCp
 have hti : Tr C (q : Int) i (.mk id true ((np.kids.drop a).take c)) := Tr.mk hiC (by rw [eCi]; exact b1) (by rw [eCi]; exact b2) (by rw [eCi]; exact b3) (by rw [eCi]; exact t2)
 have hpi' : post C i (.mk id true ((np.kids.drop a).take c)) = posts A (((A.cells[q]).kids.drop a).take c) ((np.kids.drop a).take c) ++ [i] := by
  rw [(post_eq hti).2, eCi]
  show posts C (((A.cells[q]).kids.drop a).take c) ((np.kids.drop a).take c) ++ [i] = _
  rw [u2]
 have htq : Tr C qp q (.mk np.id np.grp (np.kids.take a ++ (.mk id true ((np.kids.drop a).take c) :: np.kids.drop (a + c)))) := by
  refine Tr.mk hqC (by rw [eCq]; exact hid) (by rw [eCq]; exact hgr) (by rw [eCq]; exact hpar) ?_
  rw [eCq]
  show Trs C (q : Int) ((A.cells[q]).kids.take a ++ [(i : Int)] ++ (A.cells[q]).kids.drop (a + c)) (np.kids.take a ++ (.mk id true ((np.kids.drop a).take c) :: np.kids.drop (a + c)))
  rw [List.append_assoc]
  exact t1.app (Trs.cons hti t3)
 have hpq' : post C q (.mk np.id np.grp (np.kids.take a ++ (.mk id true ((np.kids.drop a).take c) :: np.kids.drop (a + c)))) = posts A ((A.cells[q]).kids.take a) (np.kids.take a) ++ (posts A (((A.cells[q]).kids.drop a).take c) ((np.kids.drop a).take c) ++ [i] ++ posts A ((A.cells[q]).kids.drop (a + c)) (np.kids.drop (a + c))) ++ [q] := by
  rw [(post_eq htq).2, eCq]
  show posts C ((A.cells[q]).kids.take a ++ [(i : Int)] ++ (A.cells[q]).kids.drop (a + c)) (np.kids.take a ++ (.mk id true ((np.kids.drop a).take c) :: np.kids.drop (a + c))) ++ [q] = _
  rw [List.append_assoc, posts_app C _ _ s1.len, u1]
  show _ ++ posts C ((i : Int) :: (A.cells[q]).kids.drop (a + c)) (.mk id true ((np.kids.drop a).take c) :: np.kids.drop (a + c)) ++ [q] = _
  rw [posts_cons, hpi', u3]
 obtain ⟨htr0, hperm0⟩ := f.with_ C (.mk np.id np.grp (np.kids.take a ++ (.mk id true ((np.kids.drop a).take c) :: np.kids.drop (a + c)))) rfl rfl htq (fun j hj => hsame j (f.memR hj) (fun e => f.notR hpn (e ▸ hj)) (fun hm => f.dis hpn (by rw [hpq]; exact List.mem_append.2 (.inl (m2 j (hroot j hm)))) hj))
 have htr : Tr C (-1) 0 (Nd.with_ np.id (np.kids.take a ++ (.mk id true ((np.kids.drop a).take c) :: np.kids.drop (a + c))) top) := htr0
 have hperm : (post C 0 (Nd.with_ np.id (np.kids.take a ++ (.mk id true ((np.kids.drop a).take c) :: np.kids.drop (a + c))) top)).Perm (post C q (.mk np.id np.grp (np.kids.take a ++ (.mk id true ((np.kids.drop a).take c) :: np.kids.drop (a + c)))) ++ R) := hperm0
 have hord : (Nd.with_ np.id (np.kids.take a ++ (.mk id true ((np.kids.drop a).take c) :: np.kids.drop (a + c))) top).order.Perm ((Nd.mk np.id np.grp (np.kids.take a ++ (.mk id true ((np.kids.drop a).take c) :: np.kids.drop (a + c)))).order ++ RO) := f.order' (.mk np.id np.grp (np.kids.take a ++ (.mk id true ((np.kids.drop a).take c) :: np.kids.drop (a + c)))) rfl rfl
 have hwid := with_id np.id (np.kids.take a ++ (.mk id true ((np.kids.drop a).take c) :: np.kids.drop (a + c))) top
 generalize Nd.with_ np.id (np.kids.take a ++ (.mk id true ((np.kids.drop a).take c) :: np.kids.drop (a + c))) top = top2 at *
 have hP : (post C 0 top2).Perm (post A 0 top ++ [i]) := by
  refine hperm.trans ?_
  rw [hpq']
  have e1 : (posts A ((A.cells[q]).kids.take a) (np.kids.take a) ++ (posts A (((A.cells[q]).kids.drop a).take c) ((np.kids.drop a).take c) ++ [i] ++ posts A ((A.cells[q]).kids.drop (a + c)) (np.kids.drop (a + c))) ++ [q]).Perm (post A q np ++ [i]) := by
   rw [hpq, s4]
   simp only [List.append_assoc]
   refine List.Perm.append_left _ (List.Perm.append_left _ ?_)
   refine (List.perm_append_comm (l₁ := [i]) (l₂ := posts A ((A.cells[q]).kids.drop (a + c)) (np.kids.drop (a + c)) ++ [q])).trans ?_
   rw [List.append_assoc]
  refine (e1.append_right _).trans ((perm_mid _ _ _).trans ?_)
  exact f.perm.symm.append_right _
 have hO : top2.order.Perm (top.order ++ [id]) := by
  refine hord.trans ?_
  have e1 : (Nd.mk np.id np.grp (np.kids.take a ++ (.mk id true ((np.kids.drop a).take c) :: np.kids.drop (a + c)))).order.Perm (np.order ++ [id]) := by
   rw [Nd.order, Nd.orders_app, Nd.orders, Nd.order_eq np, orders3 np.kids a c, List.cons_append]
   refine List.Perm.cons _ ?_
   rw [List.append_assoc]
   refine List.Perm.append_left _ ?_
   show ((Nd.mk id true ((np.kids.drop a).take c)).order ++ Nd.orders (np.kids.drop (a + c))).Perm _
   rw [Nd.order, List.cons_append]
   exact List.perm_append_comm (l₁ := [id])
  refine (e1.append_right _).trans ((perm_mid _ _ _).trans ?_)
  exact f.order.symm.append_right _
 have hS : top2.size = top.size + 1 := by
  have := hO.length_eq
  rwa [List.length_append, Nd.order_len, Nd.order_len, List.length_singleton] at this
 have hsl := hL.size_le
 have hs1 : (Nd.mk id true []).size = 1 := by simp [Nd.size, Nd.sizes]
 rw [hs1] at hsl
 have hperm2 := hL.perm
 rw [hpi] at hperm2
 have hCid : ∀ j ∈ post A 0 top, C.idAt j = A.idAt j := fun j hj => by
  by_cases hjq : j = q
  ·subst hjq
   rw [Ar.idAt, Ar.idAt, hCp, List.getElem?_eq_getElem hqA]; rfl
  ·by_cases hjs : (j : Int) ∈ ((A.cells[q]).kids.drop a).take c
   ·rw [Ar.idAt, Ar.idAt, hCk j hjs]
    cases A.cells[j]? <;> rfl
   ·exact Ar.idAt_congr (hsame j hj hjq hjs)
 have hCii : C.idAt i = id := by rw [Ar.idAt_eq hiC, eCi]; exact b1
 have hBii : B.idAt i = id := by rw [Ar.idAt_eq hiB]; exact b1
 refine Abs.of htr ?_ ?_ ?_ ?_ ?_ ?_ ?_ ?_ (hwid.1.trans h.id0) (hwid.2.trans h.g0) ?_ ?_
 ·rw [hO.nodup_iff, List.nodup_append]
  exact ⟨h.od, by simp, fun x hm y hy e => hx.1 (by rw [List.mem_singleton] at hy; rw [← hy, ← e]; exact hm)⟩
 ·rw [hfree]
  have e2 : (post C 0 top2 ++ B.free.map Int.toNat).Perm (post A 0 top ++ news A B) := by
   refine (hP.append_right _).trans ?_
   rw [List.append_assoc]
   exact hperm2.append_left _
  rw [e2.nodup_iff, List.nodup_append]
  refine ⟨hpn, news_nodup hlay.frb hlay.fnd, fun x hm y hy e => ?_⟩
  subst e
  rcases mem_news.1 hy with hf | hr
  ·exact dis_of_nodup h.nd hm hf
  ·have := h.tr.lt x hm; omega
 ·rw [hfree, hlen]
  intro x hm
  obtain ⟨m, e, hm⟩ := h.frb x (hL.frs x hm)
  exact ⟨m, e, Nat.lt_of_lt_of_le hm hL.le⟩
 ·rw [hlen, hfree, hS]
  have := h.len
  omega
 ·rw [hlen]
  have h2 := h.len
  have h3 := h.cap
  rcases hL.grow with hg | hg
  ·omega
  ·rw [hg] at hsl
   simp only [List.length_nil] at hsl
   omega
 ·intro j hj
  rw [hat]
  rcases List.mem_append.1 (hP.mem_iff.1 hj) with hj | hj
  ·rw [hCid j hj, hL.atn, h.at_ j hj]
   intro hm
   simp only [Nd.order, Nd.orders, List.mem_singleton] at hm
   exact hx.1 (by rw [← hm]; exact h.tr.mem hj)
  ·rw [List.mem_singleton] at hj
   subst hj
   rw [hCii]
   have := hL.at_ j (self_post B j _)
   rwa [hBii] at this
 ·intro x hm
  have hm2 := fun e => hm (hO.mem_iff.2 e)
  rw [hat, hL.atn x (fun e => by
   simp only [Nd.order, Nd.orders, List.mem_singleton] at e
   exact hm2 (List.mem_append.2 (.inr (by rw [e]; exact List.mem_singleton.2 rfl)))), h.atn x (fun e => hm2 (List.mem_append.2 (.inl e)))]
 ·rw [hcnt, hL.cnt, h.cnt, hS, hs1]
 ·intro x hm
  rcases List.mem_append.1 (hO.mem_iff.1 hm) with hm | hm
  ·exact h.i64 x hm
  ·rw [List.mem_singleton] at hm
   rw [hm]; exact hx.2
 ·intro j cc hj hn
  have hn2 := fun e => hn (hP.mem_iff.2 e)
  have hji : j ≠ i := fun e => hn2 (List.mem_append.2 (.inr (by rw [e]; exact List.mem_singleton.2 rfl)))
  have hjA : j ∉ post A 0 top := fun e => hn2 (List.mem_append.2 (.inl e))
  have hjq : j ≠ q := fun e => hjA (e ▸ hqm)
  rw [hCo j hji hjq (fun hm => hjA (hin j (m2 j (hroot j hm))))] at hj
  by_cases hjl : j < A.cells.length
  ·rw [hL.out j hjl (by rw [hpi, List.mem_singleton]; exact hji)] at hj
   exact h.cel hj
  ·exfalso
   have hjl2 : j < B.cells.length := by
    rcases Nat.lt_or_ge j B.cells.length with h | h
    ·exact h
    ·rw [List.getElem?_eq_none h] at hj; cases hj
   have : j ∈ news A B := mem_news.2 (.inr ⟨by omega, by have := hL.le; omega⟩)
   rcases List.mem_append.1 (hperm2.mem_iff.2 this) with e | e
   ·exact hji (List.mem_singleton.1 e)
   ·obtain ⟨x, hxm, rfl⟩ := List.mem_map.1 e
    obtain ⟨m, e2, hm⟩ := h.frb x (hL.frs x hxm)
    rw [e2] at hjl
    simp at hjl
    omega
end
end Go.Tr

namespace Go.Sl
open Go.Ls
theorem Val.sliceMidO {Γ : Cx} {ρ : Nat → Value} {I : Mem} {L : List HP} {ty : TypeId} {t e n len cap l h : Nat} {a : Option Addr} {x lo hi : Operand} [hk : SlK Γ.P t e n] (hx : ev ρ x = .slice a len cap) (hl : ev ρ lo = .int .i64 (l : Int)) (hh : ev ρ hi = .int .i64 (h : Int)) (h1 : l ≤ h) (h2 : h ≤ cap) :
  Val Γ ρ I L (.slice t x (some lo) (some hi) none) ty (.slice (if cap = l then a else a.map (·.add (l * n))) (h - l) (cap - l)) :=
 Val.slice (l := l) (h := h) hx (.some (e := (l : Int)) hl (Int.natCast_nonneg l)) (.some (e := (h : Int)) hh (Int.natCast_nonneg h)) h1 h2
theorem WL.rowOpen3 {Γ : Cx} {ops : Array Oper} {rest : List Oper} {ρ : Nat → Value} {I : Mem} {L : List HP} {Q : Post} {e sz n : Nat} {v : Value} {M : List HP} {xs : List Value} (k i : Nat) (hL : L[k]? = some (sts M)) (hM : M[i]? = some (sl e sz v n xs)) (next : ∀ aa cap, v = .slice aa n cap → (0 < n → ∃ g, aa = some ⟨g, 0, none⟩) → n ≤ cap → WL Γ ops rest ρ I L Q) : WL Γ ops rest ρ I L Q := fun a w ha hw => by
 have h1 := hw.rowOut k i hL hM
 obtain ⟨m, hm, _, h2⟩ := h1.head
 rcases h2 with ⟨rfl, rfl⟩ | ⟨g, cap, cur, hv, _, h3, _⟩
 ·exact next _ _ rfl (fun h => by omega) (Nat.le_refl _) a w ha hw
 ·exact next _ _ hv (fun _ => ⟨g, rfl⟩) h3 a w ha hw
end Go.Sl
namespace Go.Tr
open Go.Sl Go.Ls
def Ar.setPars (A : Ar) (l : List Int) (p : Int) : Ar := l.foldl (fun A k => A.setPar k.toNat p) A
theorem setPars_snoc (A : Ar) (l : List Int) (k p : Int) : A.setPars (l ++ [k]) p = (A.setPars l p).setPar k.toNat p := by rw [Ar.setPars, List.foldl_append]; rfl
theorem setPars_same : ∀ (l : List Int) (A : Ar) (p : Int), (A.setPars l p).b = A.b ∧ (A.setPars l p).mb = A.mb ∧ (A.setPars l p).free = A.free ∧ (A.setPars l p).at_ = A.at_ ∧ (A.setPars l p).cnt = A.cnt ∧ (A.setPars l p).cells.length = A.cells.length
 | [], _, _ => ⟨rfl, rfl, rfl, rfl, rfl, rfl⟩
 | k :: l, A, p => by
  obtain ⟨a, b, c, d, e, f⟩ := setPars_same l (A.setPar k.toNat p) p
  exact ⟨a, b, c, d, e, f.trans (setPar_len _ _ _)⟩
theorem setPars_get : ∀ (l : List Int) (hl : ∀ x ∈ l, ∃ q : Nat, x = (q : Int)) (A : Ar) (p : Int) (j : Nat), (A.setPars l p).cells[j]? = if (j : Int) ∈ l then (A.cells[j]?).map (fun c => { c with par := p }) else A.cells[j]?
 | [], _, A, p, j => by simp [Ar.setPars]
 | k :: l, hl, A, p, j => by
  obtain ⟨q, rfl⟩ := hl k (List.mem_cons_self)
  have ih := setPars_get l (fun x hx => hl x (List.mem_cons_of_mem _ hx)) (A.setPar q p) p j
  have e : A.setPars ((q : Int) :: l) p = (A.setPar q p).setPars l p := by rw [Ar.setPars, List.foldl_cons, Int.toNat_natCast]; rfl
  rw [e, ih, setPar_get]
  by_cases h1 : q = j
  ·subst h1
   simp only [if_true, List.mem_cons, true_or]
   by_cases h2 : (q : Int) ∈ l
   ·rw [if_pos h2]
    cases A.cells[q]? <;> rfl
   ·rw [if_neg h2]
  ·have h3 : ¬ (j : Int) = (q : Int) := by omega
   simp only [h1, if_false, List.mem_cons, h3, false_or]
section
variable {A : Ar} {top : Nd}
theorem Abs.wrap2 (h : Abs A top) {q : Nat} {qp : Int} {np : Nd} {R : List Nat} {RO : List Int} (f : Foc A (-1) 0 top q qp np R RO) {id : Int} (hx : id ∉ top.order ∧ I64 id) (hsz : top.size + 1 ≤ 65537)
  {B : Ar} {i : Nat} (a c : Nat) (hL : Laid A B (q : Int) i (.mk id true [])) (hqA : q < A.cells.length) (kv kv' : Value) :
  i < B.cells.length ∧ q ≠ i ∧ (∀ x ∈ (A.cells[q]).kids, ∃ y : Nat, x = (y : Int) ∧ y < A.cells.length ∧ y ≠ i ∧ y ≠ q) ∧ B.cells[q]? = A.cells[q]? ∧
  Abs (((B.setKids i (((A.cells[q]).kids.drop a).take c) kv).setPars (((A.cells[q]).kids.drop a).take c) (i : Int)).setKids q ((A.cells[q]).kids.take a ++ [(i : Int)] ++ (A.cells[q]).kids.drop (a + c)) kv') (Nd.with_ np.id (np.kids.take a ++ (.mk id true ((np.kids.drop a).take c) :: np.kids.drop (a + c))) top) := by
 have hpn := h.pnd
 obtain ⟨_, hpq, hps, hqp⟩ := f.posts_dis hpn
 have hlay := h.layOk (n := .mk id true []) (by simp [Nd.order, Nd.orders]) (fun x hm => by
  simp only [Nd.order, Nd.orders, List.mem_singleton] at hm; rw [hm]; exact hx.1) (by simp [Nd.size, Nd.sizes])
 obtain ⟨hiB, _, _, _, b4⟩ := hL.tr.ex
 have hkB : (B.cells[i]).kids = [] := List.eq_nil_of_length_eq_zero b4.len
 have hpi : post B i (.mk id true []) = [i] := by rw [(post_eq hL.tr).2, hkB]; rfl
 have hold : ∀ j ∈ post A 0 top, j ≠ i := fun j hj e => by
  have hm : i ∈ post B i (.mk id true []) := self_post B i _
  rcases mem_news.1 (hL.perm.mem_iff.1 (List.mem_append.2 (.inl hm))) with hf | hr
  ·exact dis_of_nodup h.nd (e ▸ hj) hf
  ·have := h.tr.lt j hj; omega
 have hBA : ∀ j ∈ post A 0 top, B.cells[j]? = A.cells[j]? := fun j hj => hL.out j (h.tr.lt j hj) (by rw [hpi, List.mem_singleton]; exact hold j hj)
 have hqm : q ∈ post A 0 top := f.mem (self_post A q np)
 obtain ⟨_, _, _, _, hks⟩ := f.tr.ex
 have hkid : ∀ x ∈ (A.cells[q]).kids, ∃ y : Nat, x = (y : Int) ∧ y ∈ post A 0 top ∧ y ≠ q := fun x hxm => by
  obtain ⟨y, e, hy, _⟩ := h.tr.kid_in hqm hqA hxm
  subst e
  exact ⟨y, rfl, hy, fun e => hqp (e ▸ mem_l hks hxm)⟩
 have hseg : ∀ x ∈ ((A.cells[q]).kids.drop a).take c, ∃ y : Nat, x = (y : Int) ∧ y ∈ post A 0 top ∧ y ≠ q := fun x hxm => hkid x (List.mem_of_mem_drop (List.mem_of_mem_take hxm))
 have hint : ∀ x ∈ ((A.cells[q]).kids.drop a).take c, ∃ y : Nat, x = (y : Int) := fun x hxm => by obtain ⟨y, e, _⟩ := hseg x hxm; exact ⟨y, e⟩
 have hqi := hold q hqm
 refine ⟨hiB, hqi, fun x hxm => ?_, hBA q hqm, ?_⟩
 ·obtain ⟨y, e, hy, hne⟩ := hkid x hxm
  exact ⟨y, e, h.tr.lt y hy, hold y hy, hne⟩
 obtain ⟨p1, p2, p3, p4, p5, p6⟩ := setPars_same (((A.cells[q]).kids.drop a).take c) (B.setKids i (((A.cells[q]).kids.drop a).take c) kv) (i : Int)
 have hnq : (q : Int) ∉ ((A.cells[q]).kids.drop a).take c := fun hm => by
  obtain ⟨y, e, _, hne⟩ := hseg _ hm
  exact hne (by omega)
 have hni : (i : Int) ∉ ((A.cells[q]).kids.drop a).take c := fun hm => by
  obtain ⟨y, e, hy, _⟩ := hseg _ hm
  exact hold y hy (by omega)
 refine h.wrap f hx hsz hL hqA kv kv' (by rw [Ar.setKids_len, p6, Ar.setKids_len]) p3 p4 p5 ?_ ?_ ?_ ?_
 ·rw [setKids_ne _ _ _ _ (Ne.symm hqi), setPars_get _ hint, if_neg hni, setKids_get, if_pos rfl]
 ·intro x hxm
  obtain ⟨y, e, hy, hne⟩ := hseg _ hxm
  have : y = x := by omega
  subst this
  rw [setKids_ne _ _ _ _ hne, setPars_get _ hint, if_pos hxm, setKids_ne _ _ _ _ (hold y hy), hBA y hy]
 ·rw [setKids_get, if_pos rfl, setPars_get _ hint, if_neg hnq, setKids_ne _ _ _ _ hqi, hBA q hqm, List.getElem?_eq_getElem hqA]
  rfl
 ·intro j h1 h2 h3
  rw [setKids_ne _ _ _ _ h2, setPars_get _ hint, if_neg h3, setKids_ne _ _ _ _ h1]
end
theorem Nd.height_le_heights : ∀ {l : List Nd} {k : Nd}, k ∈ l → k.height ≤ Nd.heights l
 | x :: l, k, h => by
  rw [Nd.heights]
  rcases List.mem_cons.1 h with rfl | h
  ·omega
  ·have := Nd.height_le_heights h; omega
theorem Nd.heights_le : ∀ {l : List Nd} {m : Int}, 0 ≤ m → (∀ k ∈ l, (k.height : Int) ≤ m) → (Nd.heights l : Int) ≤ m
 | [], m, h0, _ => by rw [Nd.heights]; omega
 | x :: l, m, h0, h => by
  rw [Nd.heights]
  have h1 := h x (List.mem_cons_self)
  have h2 := Nd.heights_le h0 (fun k hk => h k (List.mem_cons_of_mem _ hk))
  omega
theorem Nd.fits_deep {top : Nd} {i : Int} {g : Bool} {d : Int} (h : Nd.fits top (.mk i g []) d = 0) : d ≤ 64 := by
 rw [Nd.fits] at h
 split at h
 ·cases h
 ·rw [Nd.wrong] at h
  repeat' split at h
  all_goals first | (exact absurd h (by decide)) | omega
end Go.Tr
namespace Go.Proofs.YtggcpoleklcmkaaGreatDoor
open Go.Sl Go.Ls Go.Tr
attribute [local irreducible] WC WL WX WK WA WAK Val Ctr RunRes ResIs Rd At sl box pt Exit.then Exit.inBlock bodyPost Code.wp wpList
theorem sCloneSub (xs : List Int) (s : Value) (I : Mem) (a c : Nat) (aa : Option Addr) (cc : Nat) (hac : a + c ≤ xs.length) (haa : 0 < c → ∃ g cap, s = .slice (some ⟨g, 0, none⟩) xs.length cap ∧ aa = some ⟨g, a, none⟩) (hcc : c ≤ cc) (hl : xs.length ≤ 1099511627776) :
  Ctr Tryz.prog 119 [.slice aa c cc] I [sl 3 1 s xs.length (xs.map vi)]
   (fun r I' L' => I' = I ∧ L' = [sl 3 1 s xs.length (xs.map vi), sl 3 1 r c (((xs.drop a).take c).map vi)]) := by
 refine Ctr.intro Tryz.func119 rfl rfl rfl fun E F => ?_
 cases aa with
 | none =>
  have h0 : c = 0 := by
   rcases Nat.eq_zero_or_pos c with h | h
   ·exact h
   ·obtain ⟨g, cap, _, e⟩ := haa h; cases e
  subst h0
  refine jS (jh rfl (jM (jB (jS (jc rfl (jm (Val.eqlNil rfl) ?_))))))
  refine WL.slNil 3 1 ?_
  refine jW ?_
  refine jM (jF (jS (jh rfl (jM (jR (jU ?_))))))
  exact jP [0, 0] (jr1 rfl (jtS rfl)) ⟨rfl, by rw [List.take_zero]; rfl⟩
 | some ad =>
  refine jS (jh rfl (jM (jB (jS (jc rfl (jm (Val.eqlNil rfl) ?_))))))
  refine jM (jE (jV (jK (WL.buildSlice (by with_unfolding_all exact rfl) rfl (by with_unfolding_all exact rfl) rfl (fun _ => ?_)))))
  refine jW ?_
  refine jc rfl (WL.boxSl (e := 3) (sz := 1) (n := 0) (xs := []) 2 rfl rfl (by decide) ?_)
  rcases Nat.eq_zero_or_pos c with h0 | h0
  ·subst h0
   refine WL.append0 2 rfl rfl rfl rfl ?_
   refine jh rfl (jM (jR ?_))
   exact jP [0, 0] (jr1 rfl (jtS rfl)) ⟨rfl, by rw [List.take_zero]; rfl⟩
  ·obtain ⟨g, cap, rfl, e⟩ := haa h0
   injection e with e
   subst e
   have hlen : ((xs.drop a).take c).length = c := by rw [List.length_take, List.length_drop]; omega
   refine WL.append 2 rfl rfl rfl (Rd.slN 1 rfl a (((xs.drop a).take c).map vi) (fun q u h => ?_)) (by rw [List.length_map, Nat.mul_one]; exact hlen) (all_vi _) rfl (by decide) h0 (by omega) (by unfold maxLen; omega) rfl fun g cap => ?_
   ·rw [List.getElem?_map, List.getElem?_take] at h
    split at h
    ·rw [List.getElem?_drop] at h
     rw [List.getElem?_map]
     exact h
    ·cases h
   refine WL.nSet ?_
   refine jh rfl (jM (jR ?_))
   refine jP [0, 0] (jr1 rfl (jtS rfl)) ?_
   refine ⟨rfl, ?_⟩
   rw [Nat.zero_add]
   rfl
theorem tWrap (A : Ar) (top : Nd) (hA : Abs A top) (i parent index count : Int) (I : Mem) (hi64 : I64 i) (hc64 : I64 count) :
  Ctr Tryz.prog 114 [ptr A.b, vi i, vi parent, vi index, vi count] I A.hp (RetA A (Nd.wrap top i parent index count)) := by
 have hsle := hA.size_le
 have hcap := hA.cap
 refine Ctr.intro Tryz.func114 rfl rfl rfl fun E F => ?_
 refine jS (jf rfl (jN (jd rfl (ja rfl (WL.callK [1, 1, 1, 1, 1] rfl rfl rfl (tGroup A parent _ hA.ok) rfl ?_)))))
 rintro _ rfl
 rcases hA.grp parent with ⟨hg, hfn⟩ | ⟨p, qp, np, R, RO, hpl, hatp, hpm, hnp, hfindp, f, hcg, hg⟩
 ·rw [hg]
  refine je rfl (jm (jq rfl rfl) (jm (jq rfl rfl) (jf rfl (jf rfl (jM (jB (jS (ja rfl (jJ rfl rfl (jM (jF (jS (ja rfl (jf rfl (jM (jR (jU ?_)))))))))))))))))
  refine jP [0, 0, 0, 0, 0] (jr1 rfl (jtI rfl)) ?_
  rw [Nd.wrap, hfn]
  exact ⟨rfl, A, rfl, rfl, hA⟩
 rw [hg]
 have hwr : Nd.wrap top i parent index count = (if np.grp = false then (top, 33)
  else if index < 0 ∨ count < 0 ∨ (np.kids.length : Int) < index ∨ (np.kids.length : Int) - index < count then (top, 30)
  else if Nd.fits top (.mk i true []) (Nd.depth parent top + 1) ≠ 0 then (top, Nd.fits top (.mk i true []) (Nd.depth parent top + 1))
  else if 64 < Nd.depth parent top + 1 + (Nd.mk i true ((np.kids.drop index.toNat).take count.toNat)).height - 1 then (top, 35)
  else (Nd.with_ parent (np.kids.take index.toNat ++ (.mk i true ((np.kids.drop index.toNat).take count.toNat) :: np.kids.drop (index.toNat + count.toNat))) top, 0)) := by
  rw [Nd.wrap, hfindp]
 rw [hwr]
 cases hng : np.grp
 ·skip
  refine je rfl (jm (jq rfl rfl) (jm (jq rfl rfl) (jf rfl (jf rfl (jM (jB (jS (ja rfl (jm (Val.neq rfl rfl rfl) ?_)))))))))
  refine jM (jF (jS (ja rfl (jf rfl (jM (jR (jU ?_)))))))
  exact jP [0, 0, 0, 0, 0] (jr1 rfl (jtI rfl)) ⟨rfl, A, rfl, rfl, hA⟩
 simp only [if_true, Bool.true_eq_false, if_false]
 obtain ⟨_, hcid, _, hpar, hks⟩ := f.tr.ex
 have hlk := hks.len
 have hc3 := Ar.c3 hpl
 have hrow := Ar.row hpl
 have hnps := f.size
 have hnpl := Nd.len_le_sizes np.kids
 have hnpz := sizes_lt np
 refine WL.rowOpen3 5 p rfl hrow fun ra rc hkvp hrg hrcap => ?_
 rw [hkvp, hlk] at hc3
 rw [hkvp] at hrow
 obtain ⟨l, hl, hdep, hlp⟩ := hA.up hpm
 have hidp : A.idAt p = parent := by rw [f.id, hnp]
 rw [hidp] at hdep
 have hdle := (Nd.depth_le parent top).1
 by_cases h1 : index < 0
 ·skip
  refine je rfl (jm (jq rfl rfl) (jm (jq rfl rfl) (jf rfl (jf rfl (jM (jB (jS (ja rfl (jz rfl rfl (jM (jE (jV (jK (jd rfl (jm (jr rfl) (jm (jn rfl) (jm (jp 1 rfl rfl rfl) (ja rfl (jm (jZ rfl rfl) (jm (jn rfl) (jm (Val.loadS rfl (Rd.sl1 2 rfl (by assumption))) ?_)))))))))))))))))))))
  refine jh rfl (jM (jB (jS (ja rfl (jy rfl rfl (jb rfl (jH (jH (jk rfl (jb rfl (jH (jH (jH (jH (jk rfl (jb rfl (jH (jH (jH (jH (jH (jH (jk rfl (jM (jF (jS (jf rfl (jM (jR (jU ?_))))))))))))))))))))))))))))))
  refine jP [0, 0, 0, 0, 0] (jr1 rfl (jtI rfl)) ?_
  rw [if_pos (.inl h1)]
  exact ⟨rfl, A, rfl, rfl, hA⟩
 by_cases h2 : count < 0
 ·skip
  refine je rfl (jm (jq rfl rfl) (jm (jq rfl rfl) (jf rfl (jf rfl (jM (jB (jS (ja rfl (jz rfl rfl (jM (jE (jV (jK (jd rfl (jm (jr rfl) (jm (jn rfl) (jm (jp 1 rfl rfl rfl) (ja rfl (jm (jZ rfl rfl) (jm (jn rfl) (jm (Val.loadS rfl (Rd.sl1 2 rfl (by assumption))) ?_)))))))))))))))))))))
  refine jh rfl (jM (jB (jS (ja rfl (jx rfl rfl (jb rfl (jG (ja rfl (jG (jy rfl rfl (jk rfl (jb rfl (jH (jH (jH (jH (jk rfl (jb rfl (jH (jH (jH (jH (jH (jH (jk rfl (jM (jF (jS (jf rfl (jM (jR (jU ?_))))))))))))))))))))))))))))))))
  refine jP [0, 0, 0, 0, 0] (jr1 rfl (jtI rfl)) ?_
  rw [if_pos (.inr (.inl h2))]
  exact ⟨rfl, A, rfl, rfl, hA⟩
 obtain ⟨a, rfl⟩ := Int.eq_ofNat_of_zero_le (by omega : 0 ≤ index)
 obtain ⟨c, rfl⟩ := Int.eq_ofNat_of_zero_le (by omega : 0 ≤ count)
 by_cases h3 : (np.kids.length : Int) < a
 ·skip
  refine je rfl (jm (jq rfl rfl) (jm (jq rfl rfl) (jf rfl (jf rfl (jM (jB (jS (ja rfl (jz rfl rfl (jM (jE (jV (jK (jd rfl (jm (jr rfl) (jm (jn rfl) (jm (jp 1 rfl rfl rfl) (ja rfl (jm (jZ rfl rfl) (jm (jn rfl) (jm (Val.loadS rfl (Rd.sl1 2 rfl (by assumption))) ?_)))))))))))))))))))))
  refine jh rfl (jM (jB (jS (ja rfl (jx rfl rfl (jb rfl (jG (ja rfl (jG (jx rfl rfl (jk rfl (jb rfl (jG (ja rfl (jG (jc rfl (jG (jm (jo rfl) (jG (jO rfl rfl (jk rfl (jb rfl (jH (jH (jH (jH (jH (jH (jk rfl (jM (jF (jS (jf rfl (jM (jR (jU ?_))))))))))))))))))))))))))))))))))))
  refine jP [0, 0, 0, 0, 0] (jr1 rfl (jtI rfl)) ?_
  rw [if_pos (.inr (.inr (.inl h3)))]
  exact ⟨rfl, A, rfl, rfl, hA⟩
 by_cases h4 : (np.kids.length : Int) - a < c
 ·skip
  refine je rfl (jm (jq rfl rfl) (jm (jq rfl rfl) (jf rfl (jf rfl (jM (jB (jS (ja rfl (jz rfl rfl (jM (jE (jV (jK (jd rfl (jm (jr rfl) (jm (jn rfl) (jm (jp 1 rfl rfl rfl) (ja rfl (jm (jZ rfl rfl) (jm (jn rfl) (jm (Val.loadS rfl (Rd.sl1 2 rfl (by assumption))) ?_)))))))))))))))))))))
  refine jh rfl (jM (jB (jS (ja rfl (jx rfl rfl (jb rfl (jG (ja rfl (jG (jx rfl rfl (jk rfl (jb rfl (jG (ja rfl (jG (jc rfl (jG (jm (jo rfl) (jG (jL rfl rfl (jk rfl (jb rfl (jG (ja rfl (jG (jc rfl (jG (jm (jo rfl) (jG (ja rfl (jG (jm (Val.sub rfl rfl (wrap_i64 (by omega) (by omega))) ?_))))))))))))))))))))))))))))))))
  refine jG (jO rfl rfl (jk rfl (jM (jF (jS (jf rfl (jM (jR (jU ?_)))))))))
  refine jP [0, 0, 0, 0, 0] (jr1 rfl (jtI rfl)) ?_
  rw [if_pos (.inr (.inr (.inr h4)))]
  exact ⟨rfl, A, rfl, rfl, hA⟩
 have hac : a + c ≤ np.kids.length := by omega
 rw [if_neg (by omega)]
 simp only [Int.toNat_natCast]
 refine je rfl (jm (jq rfl rfl) (jm (jq rfl rfl) (jf rfl (jf rfl (jM (jB (jS (ja rfl (jz rfl rfl (jM (jE (jV (jK (jd rfl (jm (jr rfl) (jm (jn rfl) (jm (jp 1 rfl rfl rfl) (ja rfl (jm (jZ rfl rfl) (jm (jn rfl) (jm (Val.loadS rfl (Rd.sl1 2 rfl (by assumption))) ?_)))))))))))))))))))))
 refine jh rfl (jM (jB (jS (ja rfl (jx rfl rfl (jb rfl (jG (ja rfl (jG (jx rfl rfl (jk rfl (jb rfl (jG (ja rfl (jG (jc rfl (jG (jm (jo rfl) (jG (jL rfl rfl (jk rfl (jb rfl (jG (ja rfl (jG (jc rfl (jG (jm (jo rfl) (jG (ja rfl (jG (jm (Val.sub rfl rfl (wrap_i64 (by omega) (by omega))) ?_))))))))))))))))))))))))))))))))
 refine jG (jL rfl rfl (jk rfl (jM (jE (jV (jK (jd rfl (ja rfl (WL.callK [1, 1, 1, 1, 1] rfl rfl rfl (tDepthP A p l _ hA.ok hl (by omega)) rfl ?_)))))))))
 rintro _ rfl
 refine jX rfl rfl (jf rfl (jM (jB (jS (jd rfl (ja rfl (jm (Val.build (cs := [vi i, .bool true, .slice none 0 0]) rfl) ?_)))))))
 refine ja rfl (WL.callR [1, 1, 1, 1, 1] rfl rfl rfl (tFits A top hA (.mk i true []) (.slice none 0 0) _ _ (by simp [Nd.size, Nd.sizes]) hi64 (LsAt.nil _ _) (by omega) (by omega)) rfl ?_)
 rintro _ I2 hI2 rfl
 rw [← hdep]
 by_cases he : Nd.fits top (.mk i true []) (Nd.depth parent top + 1) = 0
 case neg =>
  rw [if_pos he]
  refine jf rfl (jN (ja rfl (jJ rfl rfl (jM (jF (jS (ja rfl (jf rfl (jM (jR (jU ?_)))))))))))
  exact jP [0, 0, 0, 0, 0] (jr1 rfl (jtI rfl)) ⟨rfl, A, rfl, rfl, hA⟩
 rw [if_neg (by rw [he]; decide)]
 have hdeep := Nd.fits_deep he
 obtain ⟨_, hx, hsz⟩ := Nd.fits_ok he
 rw [he]
 have hxi := hx i (by simp [Nd.order])
 have hs1 : (Nd.mk i true []).size = 1 := by simp [Nd.size, Nd.sizes]
 rw [hs1] at hsz
 have eac : (a : Int) + (c : Int) = ((a + c : Nat) : Int) := by omega
 refine jf rfl (jN (ja rfl (jz rfl rfl (jM (jE (jV (jK (jc rfl (ja rfl (ja rfl (ja rfl (jX rfl rfl ?_))))))))))))
 rw [eac]
 refine jm (Val.sliceMidO rfl rfl rfl (by omega) (by omega)) ?_
 rw [Nat.add_sub_cancel_left]
 refine WL.rowTake 5 p rfl hrow ?_
 refine WL.callP [0] rfl rfl (sCloneSub (A.cells[p]).kids (.slice ra (A.cells[p]).kids.length rc) _ a c _ _ (by omega) (fun h0 => ?_) (by omega) (by omega)) rfl ?_
 ·obtain ⟨g, rfl⟩ := hrg (by omega)
  exact ⟨g, rc, rfl, by rw [if_neg (by omega), Option.map_some, addr_add, Nat.zero_add, Nat.mul_one]⟩
 rintro sv I3 _ hI3 ⟨rfl, rfl⟩
 refine jW ?_
 refine WL.conv (fun w h => h.sub [6, 0, 0, 0, 0, 0, 0, 0] rfl) ?_
 refine WL.rowPut 5 p rfl (by simpa using hpl) ?_
 refine WL.nSet ?_
 rw [set_same hrow]
 have hd2 : Nd.depth parent top + 1 = ((Nd.depth parent top + 1 : Int)) := rfl
 obtain ⟨_, s2, _, _⟩ := split3 hks a c
 have hsegl : (((A.cells[p]).kids.drop a).take c).length = c := by rw [List.length_take, List.length_drop]; omega
 have hnsl : ((np.kids.drop a).take c).length = c := by rw [List.length_take, List.length_drop]; omega
 have hhsz : ∀ x ∈ (np.kids.drop a).take c, x.size ≤ 100000 := fun x hm => by
  have := Nd.size_le_sizes (List.mem_of_mem_drop (List.mem_of_mem_take hm))
  omega
 have hhe : (Nd.mk i true ((np.kids.drop a).take c)).height = Nd.heights ((np.kids.drop a).take c) + 1 := by rw [Nd.height]
 have hw2 := fun B j kv kv' (hL : Laid A B (p : Int) j (.mk i true [])) => hA.wrap2 f (id := i) ⟨hxi.1, hi64⟩ hsz a c hL hpl kv kv'
 generalize hseg : ((A.cells[p]).kids.drop a).take c = seg at *
 generalize hnseg : (np.kids.drop a).take c = nseg at *
 generalize hdd : Nd.depth parent top + 1 = d at *
 have hd0 : 0 ≤ d := by omega
 refine WL.slOpen 6 rfl fun sa sc hsv => ?_
 subst hsv
 refine jh rfl (jM (jB (jS (jc rfl (jm (jo rfl) (ja rfl (jM (WC.block ?_))))))))
 refine WC.loop (fun n ρ' I' L' => ∃ k : Nat, n = c - k ∧ k ≤ c ∧ I' = I3 ∧ ρ' 0 = ptr A.b ∧ ρ' 1 = vi i ∧ ρ' 3 = vi a ∧ ρ' 4 = vi c ∧ ρ' 11 = vi p ∧ ρ' 14 = vi d ∧ ρ' 16 = .slice sa c sc ∧ ρ' 78 = .slice sa c sc ∧ ρ' 79 = vi c ∧ ρ' 80 = vi k ∧
   L' = F :: A.on [sl 3 1 (.slice sa c sc) c (seg.map vi)] ∧ ∀ x ∈ nseg.take k, d + x.height ≤ 64)
  c ⟨0, rfl, by omega, rfl, rfl, rfl, rfl, rfl, rfl, rfl, rfl, rfl, rfl, rfl, rfl, by simp⟩ ?_
 rintro n ρ' I' L' ⟨k, rfl, hk, rfl, r0, r1, r3, r4, r11, r14, r16, r78, r79, r80, rfl, hall⟩
 refine ju10 r80 r79 r78 r16 r14 r11 r4 r3 r1 r0 ?_
 by_cases hkc : k < c
 ·refine WC.slSome 6 rfl (by omega) fun g hg => ?_
  subst hg
  obtain ⟨y, hy, hty⟩ := s2.get k (by omega) (by omega)
  have hv : (seg.map vi)[0 + ((k : Nat) : Int).toNat * 1]? = some (vi y) := by
   rw [Nat.zero_add, Int.toNat_natCast, Nat.mul_one, List.getElem?_map, List.getElem?_eq_getElem (by omega), hy]; rfl
  have hmem : nseg[k] ∈ nseg := List.getElem_mem (by omega)
  have hsz1 := hhsz _ hmem
  have hhl := Nd.height_le nseg[k]
  refine jS (jy rfl rfl (jM (jB (jF (jV (jA (jB (WC.block (jS (jm (jZ rfl rfl) (jm (Val.loadS rfl (Rd.sl1 6 rfl hv)) ?_)))))))))))
  refine jf rfl (jN (ja rfl (jd rfl (ja rfl (WL.callK [1, 1, 1, 1, 1] rfl rfl rfl (tHeight A hA.ok _ nseg[k] (Nat.le_refl _) _ y _ (by omega) hty) rfl ?_)))))
  rintro _ rfl
  by_cases hdh : 64 < d + (nseg[k].height : Int)
  ·skip
   refine jX rfl rfl (jO rfl rfl (jM (jF (jS (jf rfl (jM (jR (WX.inRet (jU (jU (WX.inRet (jU ?_))))))))))))
   refine jP [0, 0, 0, 0, 0] (jr1 rfl (jtI rfl)) ?_
   have := Nd.height_le_heights hmem
   rw [if_pos (by omega)]
   exact ⟨rfl, A, rfl, rfl, hA⟩
  ·skip
   refine jX rfl rfl (jL rfl rfl (jM (jE (jV (WX.inNormal (jA (jD (jX rfl rfl (ja rfl (jC ?_))))))))))
   refine WX.thenK (WK.round (c - (k + 1)) (by omega) ⟨k + 1, rfl, by omega, rfl, rfl, rfl, rfl, rfl, rfl, rfl, rfl, rfl, rfl, rfl, rfl, ?_⟩)
   refine all_snoc hall (by omega) (by omega)
 have hall2 : (Nd.heights nseg : Int) ≤ 64 - d := Nd.heights_le (by omega) (fun x hm => by
  have := hall x (by rw [List.take_of_length_le (by omega)]; exact hm)
  omega)
 rw [if_neg (by omega)]
 refine jS (jx rfl rfl (jM (jB (jE (WC.exit (WX.thenExit (WX.thenExit (WX.inHit (jK (jd rfl (ja rfl (jm (Val.build (cs := [vi i, .bool true, .slice none 0 0]) rfl) ?_))))))))))))
 refine ja rfl (WL.callP [1, 1, 1, 1, 1] rfl rfl (tLay _ (.mk i true []) (Nat.le_refl _) A p _ _ (by omega) (hA.layOk (by simp [Nd.order, Nd.orders]) (fun x hm => (hx x hm).1) (by omega)) (LsAt.nil _ _)) rfl ?_)
 rintro _ I4 _ hI4 ⟨B, j, rfl, rfl, hL⟩
 have hJ := hI2.trans hI4
 obtain ⟨hjB, hpj, hkid, hBp, _⟩ := hw2 B j (.slice sa c sc) (.slice none 0 0) hL
 have hbB := hL.b
 rw [← hbB]
 have hrowB := Ar.row hjB
 have hpB : p < B.cells.length := Nat.lt_of_lt_of_le hpl hL.le
 have hsub : ∀ x ∈ seg, x ∈ (A.cells[p]).kids := fun x hm => by rw [← hseg] at hm; exact List.mem_of_mem_drop (List.mem_of_mem_take hm)
 have hint : ∀ x ∈ seg, ∃ y : Nat, x = (y : Int) := fun x hm => by obtain ⟨y, e, _⟩ := hkid x (hsub x hm); exact ⟨y, e⟩
 refine jW ?_
 refine WL.conv (fun w h => h.sub [0, 1, 1, 1, 1, 1, 0] rfl) ?_
 refine jf rfl (jN (jd rfl (jm (jr rfl) (jm (jn rfl) (jm (jp 1 rfl rfl rfl) (ja rfl (jc rfl (jm (jZ rfl rfl) (jm (jn rfl) (WL.storeSl 2 rfl rfl rfl rfl (by show 0 + (j : Int).toNat * 4 + 3 + 1 ≤ B.cells.length * 4; rw [Int.toNat_natCast]; omega) ?_))))))))))
 refine WL.nSet ?_
 refine WL.rowTake 5 j rfl hrowB ?_
 refine WL.conv (fun w h => h.sub [7, 1, 1, 1, 1, 1, 1] rfl) ?_
 refine WL.rowPut 5 j rfl (by simpa using hjB) ?_
 refine WL.nSet ?_
 have hD0hp := Ar.setKids_hp B j seg (.slice sa c sc) hjB
 rw [hsegl] at hD0hp
 refine WL.conv (L' := F :: (B.setKids j seg (.slice sa c sc)).hp) (fun w h => by rw [hD0hp]; exact h) ?_
 obtain ⟨hjD0, eD0⟩ := setKids_at B j seg (.slice sa c sc) hjB
 have hD0p : (B.setKids j seg (.slice sa c sc)).cells[p]? = A.cells[p]? := by rw [setKids_ne _ _ _ _ hpj, hBp]
 have hD0l := Ar.setKids_len B j seg (.slice sa c sc)
 have hD0b : (B.setKids j seg (.slice sa c sc)).b = B.b := rfl
 rw [← hD0b]
 have hw3 := fun kv' => (hw2 B j (.slice sa c sc) kv' hL).2.2.2.2
 generalize hD0 : B.setKids j seg (.slice sa c sc) = D0 at *
 have hj0 : (j : Int) ∉ seg := fun hm => by
  obtain ⟨y, e, _, hne, _⟩ := hkid _ (hsub _ hm)
  exact hne (by omega)
 have hp0 : (p : Int) ∉ seg := fun hm => by
  obtain ⟨y, e, _, _, hne⟩ := hkid _ (hsub _ hm)
  exact hne (by omega)
 refine jM (jB (jS (jc rfl (jm (jo rfl) (ja rfl (jM (WC.block ?_)))))))
 refine WC.loop (fun n ρ' I' L' => ∃ k : Nat, n = c - k ∧ k ≤ c ∧ I' = I4 ∧ ρ' 0 = ptr (D0.setPars (seg.take k) j).b ∧ ρ' 3 = vi a ∧ ρ' 4 = vi c ∧ ρ' 11 = vi p ∧ ρ' 19 = vi j ∧ ρ' 104 = .slice sa c sc ∧ ρ' 105 = vi c ∧ ρ' 106 = vi k ∧
   L' = F :: (D0.setPars (seg.take k) j).hp)
  c ⟨0, rfl, by omega, rfl, rfl, rfl, rfl, rfl, rfl, rfl, rfl, rfl, rfl⟩ ?_
 rintro n ρ' I' L' ⟨k, rfl, hk, rfl, r0, r3, r4, r11, r19, r104, r105, r106, rfl⟩
 refine ju8 r106 r105 r104 r19 r11 r4 r3 r0 ?_
 have hintk : ∀ x ∈ seg.take k, ∃ y : Nat, x = (y : Int) := fun x hm => hint x (List.mem_of_mem_take hm)
 obtain ⟨pb, _, pf, pat, pc, pl⟩ := setPars_same (seg.take k) D0 (j : Int)
 have hgj : (D0.setPars (seg.take k) j).cells[j]? = D0.cells[j]? := by rw [setPars_get _ hintk, if_neg (fun hm => hj0 (List.mem_of_mem_take hm))]
 have hgp : (D0.setPars (seg.take k) j).cells[p]? = A.cells[p]? := by rw [setPars_get _ hintk, if_neg (fun hm => hp0 (List.mem_of_mem_take hm)), hD0p]
 by_cases hkc : k < c
 ·obtain ⟨y, hy, hyl, _, _⟩ := hkid seg[k] (hsub _ (List.getElem_mem (by omega)))
  have hv : (seg.map vi)[0 + ((k : Nat) : Int).toNat * 1]? = some (vi y) := by
   rw [Nat.zero_add, Int.toNat_natCast, Nat.mul_one, List.getElem?_map, List.getElem?_eq_getElem (by omega), hy]; rfl
  have hsnoc : D0.setPars (seg.take (k + 1)) j = (D0.setPars (seg.take k) j).setPar y j := by
   rw [take1 seg k (by omega), setPars_snoc, hy, Int.toNat_natCast]
  have hrowk : ((D0.setPars (seg.take k) j).cells.map Cel.row)[j]? = some (sl 3 1 (.slice sa c sc) c (seg.map vi)) := by
   rw [List.getElem?_map, hgj, List.getElem?_eq_getElem hjD0, eD0, Option.map_some, Cel.row]
   show some (sl 3 1 (.slice sa c sc) seg.length (seg.map vi)) = _
   rw [hsegl]
  have hylD : y < (D0.setPars (seg.take k) j).cells.length := by rw [pl, hD0l]; exact Nat.lt_of_lt_of_le hyl hL.le
  have hhp := Ar.setPar_hp (D0.setPars (seg.take k) j) y j hylD
  rw [← hsnoc] at hhp
  have hb2 : (D0.setPars (seg.take (k + 1)) j).b = (D0.setPars (seg.take k) j).b := by rw [hsnoc]; rfl
  generalize D0.setPars (seg.take k) (j : Int) = Dk at *
  refine WC.rowOpen 5 j rfl hrowk fun sa2 sc2 e hsg => ?_
  injection e with e1 e2 e3
  subst e1; subst e3
  obtain ⟨g, rfl⟩ := hsg (by omega)
  refine jS (jy rfl rfl (jM (jB (jF (jV (jA (jB (WC.block (jS (jm (jZ rfl rfl) (jm (Val.loadS rfl (Rd.row1 5 j rfl hrowk hv)) ?_)))))))))))
  refine jf rfl (jM (jD (jd rfl (jm (jr rfl) (jm (jn rfl) (jm (jp 1 rfl rfl rfl) (ja rfl (ja rfl (jm (jZ rfl rfl) (jm (jn rfl) (WL.storeSl 2 rfl rfl rfl rfl (by show 0 + (y : Int).toNat * 4 + 2 + 1 ≤ Dk.cells.length * 4; rw [Int.toNat_natCast]; omega) ?_)))))))))))
  refine WL.nSet ?_
  exact jC (WX.inNormal (jA (jD (jX rfl rfl (ja rfl (jC (WX.thenK (WK.round (c - (k + 1)) (by omega) ⟨k + 1, rfl, by omega, rfl, by rw [hb2]; rfl, rfl, rfl, rfl, rfl, rfl, rfl, rfl, by rw [hhp]; rfl⟩))))))))
 have hfull : seg.take k = seg := List.take_of_length_le (by omega)
 rw [hfull] at pb pf pat pc pl hgj hgp ⊢
 have hpD : p < (D0.setPars seg j).cells.length := by rw [pl, hD0l]; exact hpB
 have heD : (D0.setPars seg j).cells[p] = A.cells[p] := by
  rw [List.getElem?_eq_getElem hpD, List.getElem?_eq_getElem hpl] at hgp; injection hgp
 have hc3D := Ar.c3 hpD
 have hrowD := Ar.row hpD
 generalize hDD : D0.setPars seg (j : Int) = D at *
 have hklD : (D.cells[p]).kids.length = np.kids.length := by rw [heD]; exact hlk
 refine jS (jx rfl rfl (jM (jB (jE (WC.exit (WX.thenExit (WX.thenExit (WX.inHit (jA (jB (WC.rowOpen 5 p rfl hrowD fun rb rd hkvD _ => ?_)))))))))))
 rw [hkvD] at hc3D hrowD
 refine j8 22 [1, 1] rfl (jT 0 rfl (Val.moveP rfl) (jT 1 rfl (jr rfl) (jT 2 rfl (jn rfl) (jT 3 rfl (jp 0 rfl rfl rfl) (jT 4 rfl (Val.moveI rfl) (jT 5 rfl (Val.moveP rfl) (jT 6 rfl (jr rfl) (jT 7 rfl (jn rfl) (jT 8 rfl (jp 0 rfl rfl rfl) (jT 9 rfl (Val.moveI rfl) (jT 10 rfl (jZ rfl rfl) (jT 11 rfl (jn rfl) (jT 12 rfl (Val.loadS rfl (Rd.sl1 1 rfl hc3D)) ?_)))))))))))))
 refine jT 13 rfl (Val.moveI rfl) (jT 14 rfl (Val.moveI rfl) (jT 15 rfl (Val.moveI rfl) (jT 16 rfl (Val.add rfl rfl (wrap_i64 (by omega) (by omega))) ?_)))
 refine jT 17 rfl (Val.moveI rfl) (j5 18 rfl (WL.buildSlice (by with_unfolding_all exact rfl) rfl (by with_unfolding_all exact rfl) rfl (fun _ => ?_)))
 rename_i g8
 refine jW ?_
 refine jC (j7 [1, 1] rfl (j5 19 rfl ?_))
 rw [eac]
 refine WL.rowTake 5 p rfl hrowD ?_
 refine WL.boxSl (xs := [vi (j : Int)]) (n := 1) (sz := 1) 7 rfl rfl (by decide) ?_
 refine WL.callP [0, 6] rfl rfl (sReplace (D.cells[p]).kids [(j : Int)] a (a + c) (.slice rb (D.cells[p]).kids.length rd) (.slice (some ⟨g8, 0, none⟩) 1 1) _ (by omega) (by omega) (fun _ => Nat.zero_lt_one) (by rw [hklD]; simp only [List.length_singleton]; omega)) rfl ?_
 rintro rv _ _ hI5 ⟨rfl, rfl⟩
 refine jW ?_
 have hlen : ((D.cells[p]).kids.take a ++ [(j : Int)] ++ (D.cells[p]).kids.drop (a + c)).length = a + [(j : Int)].length + ((D.cells[p]).kids.length - (a + c)) := by
  simp only [List.length_append, List.length_take, List.length_drop]; omega
 rw [← hlen]
 refine WL.conv (fun w h => h.sub [6, 0, 0, 0, 0, 0, 0] rfl) ?_
 refine WL.rowPut 5 p rfl (by simpa using hpD) ?_
 refine WL.nSet ?_
 refine WL.rowOpen 5 p rfl (List.getElem?_set_self (by simpa using hpD)) fun ra2 rc2 hr _ => ?_
 subst hr
 refine jC (j7 [1, 1] rfl (j5 20 rfl (jm (jZ rfl rfl) (jC (j7 [1, 1] rfl (j5 21 rfl (jm (jn rfl) (jC (j7 [1, 1] rfl (j5 22 rfl (WL.storeSl 2 rfl rfl rfl rfl (by show 0 + (p : Int).toNat * 4 + 3 + 1 ≤ D.cells.length * 4; rw [Int.toNat_natCast]; omega) ?_)))))))))))
 refine WL.nSet ?_
 refine jC (WK.anyLast (WA.done (by kernel_rfl) (jK (jf rfl (jM (jR ?_))))))
 refine jP [0, 0, 0, 0, 0] (jr1 rfl (jtI rfl)) ?_
 have hAbs := hw3 (.slice ra2 ((D.cells[p]).kids.take a ++ [(j : Int)] ++ (D.cells[p]).kids.drop (a + c)).length rc2)
 rw [← heD, hnp] at hAbs
 refine ⟨rfl, _, ?_, ?_, hAbs⟩
 ·exact pb.trans (hD0b.trans hbB)
 ·rw [Ar.setKids_hp D p _ _ hpD]; rfl
end Go.Proofs.YtggcpoleklcmkaaGreatDoor

namespace Go.Sl
open Go.Ls
theorem Sat.rowSwap {E : Ev} {w : World} {I : Mem} {L : List HP} {M : List HP} {p : HP} (e sz k i : Nat) (hL : L[k]? = some (sts M)) (hM : M[i]? = some p) (h : Sat E w I L) : Sat E w I (p :: L.set k (sts (M.set i (sl e sz (.slice none 0 0) 0 [])))) := by
 have h2 := (h.rowOut k i hL hM).sl_nil (e := e) (sz := sz)
 have h3 : Sat E w I (sl e sz (.slice none 0 0) 0 [] :: (p :: L).set (k + 1) (sts (M.eraseIdx i))) := h2
 exact Sat.rowBack (L := p :: L) (k + 1) i (by rw [List.getElem?_cons_succ]; exact hL) hM h3
theorem WL.rowSwap {Γ : Cx} {ops : Array Oper} {rest : List Oper} {ρ : Nat → Value} {I : Mem} {L : List HP} {Q : Post} {M L' : List HP} {p : HP} (e sz k i : Nat) (hL : L[k]? = some (sts M)) (hM : M[i]? = some p) [hs : SetL L k (sts (M.set i (sl e sz (.slice none 0 0) 0 []))) L'] (next : WL Γ ops rest ρ I (p :: L') Q) : WL Γ ops rest ρ I L Q :=
 fun a w ha hw => next a w ha (hs.is ▸ hw.rowSwap e sz k i hL hM)
end Go.Sl
namespace Go.Tr
open Go.Sl Go.Ls
section
variable {A : Ar} {top : Nd}
theorem Abs.unwrap (h : Abs A top) {i y k : Nat} {yp : Int} {ny n : Nd} {R : List Nat} {RO : List Int} (hl : Lies A i y k) (f : Foc A (-1) 0 top y yp ny R RO) (hk : k < ny.kids.length) (hn : ny.kids[k] = n) (ht : Tr A (y : Int) i n) (hi0 : i ≠ 0)
  {C : Ar} (hiA : i < A.cells.length) (hyA : y < A.cells.length) (kv : Value) (hlen : C.cells.length = A.cells.length) (hfree : C.free = A.free ++ [(i : Int)]) (hat : ∀ x, C.at_ x = if x = n.id then none else A.at_ x) (hcnt : C.cnt + 1 = A.cnt)
  (hCi : C.cells[i]? = some zeroCel) (hCk : ∀ x : Nat, (x : Int) ∈ (A.cells[i]).kids → C.cells[x]? = (A.cells[x]?).map (fun x => { x with par := (y : Int) }))
  (hCy : C.cells[y]? = some { A.cells[y] with kids := (A.cells[y]).kids.take k ++ (A.cells[i]).kids ++ (A.cells[y]).kids.drop (k + 1), kv := kv })
  (hCo : ∀ j : Nat, j ≠ i → j ≠ y → (j : Int) ∉ (A.cells[i]).kids → C.cells[j]? = A.cells[j]?) : Abs C (Nd.with_ ny.id (ny.kids.take k ++ (n.kids ++ ny.kids.drop (k + 1))) top) := by
 have hpn := h.pnd
 obtain ⟨_, hpy, hps, hyp⟩ := f.posts_dis hpn
 obtain ⟨_, _, _, e2, e3⟩ := hl
 obtain ⟨_, hid, hgr, hpar, hks⟩ := f.tr.ex
 obtain ⟨_, hidn, _, _, hkn⟩ := ht.ex
 obtain ⟨_, hpi⟩ := post_eq ht
 have hkk : k < (A.cells[y]).kids.length := by rw [hks.len]; exact hk
 have hki : (A.cells[y]).kids[k] = (i : Int) := by
  rw [List.getElem?_eq_getElem hkk] at e2; injection e2
 obtain ⟨s1, s2, s3⟩ := Trs.split k hks
 rw [drop_eq hkk, drop_eq hk, hki, hn] at s2 s3
 rw [posts_cons, hpi] at s3
 have s2' : Trs A (y : Int) ((A.cells[y]).kids.drop (k + 1)) (ny.kids.drop (k + 1)) := by rw [Trs] at s2; exact s2.2
 rw [s3] at hps hyp
 have hin : ∀ j ∈ posts A ((A.cells[y]).kids.take k) (ny.kids.take k) ++ (posts A (A.cells[i]).kids n.kids ++ [i] ++ posts A ((A.cells[y]).kids.drop (k + 1)) (ny.kids.drop (k + 1))), j ∈ post A 0 top := fun j hj => f.mem (by rw [hpy, s3]; exact List.mem_append.2 (.inl hj))
 obtain ⟨n1, n23, n1d⟩ := List.nodup_append.1 hps
 obtain ⟨n2i, n3, n2d⟩ := List.nodup_append.1 n23
 obtain ⟨n2, _, nid⟩ := List.nodup_append.1 n2i
 have m1 : ∀ j ∈ posts A ((A.cells[y]).kids.take k) (ny.kids.take k), j ∈ posts A ((A.cells[y]).kids.take k) (ny.kids.take k) ++ (posts A (A.cells[i]).kids n.kids ++ [i] ++ posts A ((A.cells[y]).kids.drop (k + 1)) (ny.kids.drop (k + 1))) := fun j hj => List.mem_append.2 (.inl hj)
 have m2 : ∀ j ∈ posts A (A.cells[i]).kids n.kids ++ [i], j ∈ posts A ((A.cells[y]).kids.take k) (ny.kids.take k) ++ (posts A (A.cells[i]).kids n.kids ++ [i] ++ posts A ((A.cells[y]).kids.drop (k + 1)) (ny.kids.drop (k + 1))) := fun j hj => List.mem_append.2 (.inr (List.mem_append.2 (.inl hj)))
 have m3 : ∀ j ∈ posts A ((A.cells[y]).kids.drop (k + 1)) (ny.kids.drop (k + 1)), j ∈ posts A ((A.cells[y]).kids.take k) (ny.kids.take k) ++ (posts A (A.cells[i]).kids n.kids ++ [i] ++ posts A ((A.cells[y]).kids.drop (k + 1)) (ny.kids.drop (k + 1))) := fun j hj => List.mem_append.2 (.inr (List.mem_append.2 (.inr hj)))
 have hmi : i ∈ posts A (A.cells[i]).kids n.kids ++ [i] := List.mem_append.2 (.inr (List.mem_singleton.2 rfl))
 have hroot : ∀ j : Nat, (j : Int) ∈ (A.cells[i]).kids → j ∈ posts A (A.cells[i]).kids n.kids ++ [i] := fun j hj => List.mem_append.2 (.inl (mem_l hkn hj))
 have hne : ∀ j ∈ posts A ((A.cells[y]).kids.take k) (ny.kids.take k) ++ (posts A (A.cells[i]).kids n.kids ++ [i] ++ posts A ((A.cells[y]).kids.drop (k + 1)) (ny.kids.drop (k + 1))), j ≠ y := fun j hj e => hyp (e ▸ hj)
 have hiy : i ≠ y := hne i (m2 i hmi)
 obtain ⟨t1, u1⟩ := Trs.keep (A' := C) _ _ s1 (fun j hj => hCo j (fun e => n1d j hj i (List.mem_append.2 (.inl hmi)) e) (hne j (m1 j hj)) (fun hm => n1d j hj j (List.mem_append.2 (.inl (hroot j hm))) rfl))
 obtain ⟨t3, u3⟩ := Trs.keep (A' := C) _ _ s2' (fun j hj => hCo j (fun e => n2d i hmi j hj e.symm) (hne j (m3 j hj)) (fun hm => n2d j (hroot j hm) j hj rfl))
 obtain ⟨t2, u2⟩ := Trs.repar (C := C) (p' := (y : Int)) hkn n2 hCk (fun j hj hno => hCo j (fun e => nid j hj i (List.mem_singleton.2 rfl) e) (hne j (m2 j (List.mem_append.2 (.inl hj)))) hno)
 have hyC : y < C.cells.length := by rw [hlen]; exact hyA
 have eC : C.cells[y] = { A.cells[y] with kids := (A.cells[y]).kids.take k ++ (A.cells[i]).kids ++ (A.cells[y]).kids.drop (k + 1), kv := kv } := by
  rw [List.getElem?_eq_getElem hyC] at hCy; injection hCy
 have htq : Tr C yp y (.mk ny.id ny.grp (ny.kids.take k ++ (n.kids ++ ny.kids.drop (k + 1)))) := by
  refine Tr.mk hyC (by rw [eC]; exact hid) (by rw [eC]; exact hgr) (by rw [eC]; exact hpar) ?_
  rw [eC]
  show Trs C (y : Int) ((A.cells[y]).kids.take k ++ (A.cells[i]).kids ++ (A.cells[y]).kids.drop (k + 1)) (ny.kids.take k ++ (n.kids ++ ny.kids.drop (k + 1)))
  rw [List.append_assoc]
  exact t1.app (t2.app t3)
 have hpq' : post C y (.mk ny.id ny.grp (ny.kids.take k ++ (n.kids ++ ny.kids.drop (k + 1)))) = posts A ((A.cells[y]).kids.take k) (ny.kids.take k) ++ (posts A (A.cells[i]).kids n.kids ++ posts A ((A.cells[y]).kids.drop (k + 1)) (ny.kids.drop (k + 1))) ++ [y] := by
  rw [(post_eq htq).2, eC]
  show posts C ((A.cells[y]).kids.take k ++ (A.cells[i]).kids ++ (A.cells[y]).kids.drop (k + 1)) (ny.kids.take k ++ (n.kids ++ ny.kids.drop (k + 1))) ++ [y] = _
  rw [List.append_assoc, posts_app C _ _ s1.len, u1, posts_app C _ _ hkn.len, u2, u3]
 have hmy : ∀ j ∈ posts A (A.cells[i]).kids n.kids ++ [i], j ∈ post A y ny := fun j hj => by rw [hpy, s3]; exact List.mem_append.2 (.inl (m2 j hj))
 obtain ⟨htr0, hperm0⟩ := f.with_ C (.mk ny.id ny.grp (ny.kids.take k ++ (n.kids ++ ny.kids.drop (k + 1)))) rfl rfl htq (fun j hj => hCo j (fun e => f.dis hpn (hmy i hmi) (e ▸ hj)) (fun e => f.notR hpn (e ▸ hj)) (fun hm => f.dis hpn (hmy j (hroot j hm)) hj))
 have htr : Tr C (-1) 0 (Nd.with_ ny.id (ny.kids.take k ++ (n.kids ++ ny.kids.drop (k + 1))) top) := htr0
 have hperm : (post C 0 (Nd.with_ ny.id (ny.kids.take k ++ (n.kids ++ ny.kids.drop (k + 1))) top)).Perm (post C y (.mk ny.id ny.grp (ny.kids.take k ++ (n.kids ++ ny.kids.drop (k + 1)))) ++ R) := hperm0
 have hord : (Nd.with_ ny.id (ny.kids.take k ++ (n.kids ++ ny.kids.drop (k + 1))) top).order.Perm ((Nd.mk ny.id ny.grp (ny.kids.take k ++ (n.kids ++ ny.kids.drop (k + 1)))).order ++ RO) := f.order' (.mk ny.id ny.grp (ny.kids.take k ++ (n.kids ++ ny.kids.drop (k + 1)))) rfl rfl
 have hwid := with_id ny.id (ny.kids.take k ++ (n.kids ++ ny.kids.drop (k + 1))) top
 generalize Nd.with_ ny.id (ny.kids.take k ++ (n.kids ++ ny.kids.drop (k + 1))) top = top2 at *
 have hP : (post C 0 top2 ++ [i]).Perm (post A 0 top) := by
  refine (hperm.append_right _).trans (List.Perm.trans ?_ f.perm.symm)
  rw [hpq', hpy, s3]
  refine (perm_mid _ _ _).trans (List.Perm.append_right _ ?_)
  simp only [List.append_assoc]
  refine List.Perm.append_left _ (List.Perm.append_left _ ?_)
  rw [← List.append_assoc, ← List.append_assoc]
  exact List.perm_append_comm.trans (by rw [List.append_assoc])
 have hO : (top2.order ++ [n.id]).Perm top.order := by
  refine (hord.append_right _).trans (List.Perm.trans ?_ f.order.symm)
  refine (perm_mid _ _ _).trans (List.Perm.append_right _ ?_)
  have : Nd.orders ny.kids = Nd.orders (ny.kids.take k) ++ (n.order ++ Nd.orders (ny.kids.drop (k + 1))) := by
   rw [← hn]
   show _ = Nd.orders (ny.kids.take k) ++ Nd.orders (ny.kids[k] :: ny.kids.drop (k + 1))
   rw [← drop_eq hk, ← Nd.orders_app, List.take_append_drop]
  rw [Nd.order, Nd.orders_app, Nd.orders_app, Nd.order_eq ny, this, Nd.order_eq n, List.cons_append]
  refine List.Perm.cons _ ?_
  simp only [List.append_assoc, List.cons_append]
  refine List.Perm.append_left _ ?_
  rw [← List.append_assoc]
  exact List.perm_append_comm (l₂ := [n.id])
 have hS : top2.size + 1 = top.size := by
  have := hO.length_eq
  rwa [List.length_append, Nd.order_len, Nd.order_len, List.length_singleton] at this
 have hPn := hP.nodup_iff.2 h.pnd
 have hOn := hO.nodup_iff.2 h.od
 have hmem : ∀ j ∈ post C 0 top2, j ∈ post A 0 top ∧ j ≠ i := fun j hj => ⟨hP.mem_iff.1 (List.mem_append.2 (.inl hj)), fun e => dis_of_nodup hPn hj (by rw [e]; exact List.mem_singleton.2 rfl)⟩
 have hyi : y ∈ post A 0 top := f.mem (self_post A y ny)
 have hii : i ∈ post A 0 top := hin i (m2 i hmi)
 have hCid : ∀ j ∈ post A 0 top, j ≠ i → C.idAt j = A.idAt j := fun j hj hji => by
  by_cases hjy : j = y
  ·subst hjy
   rw [Ar.idAt, Ar.idAt, hCy, List.getElem?_eq_getElem hyA]; rfl
  ·by_cases hjs : (j : Int) ∈ (A.cells[i]).kids
   ·rw [Ar.idAt, Ar.idAt, hCk j hjs]
    cases A.cells[j]? <;> rfl
   ·exact Ar.idAt_congr (hCo j hji hjy hjs)
 have hnid : A.idAt i = n.id := ht.idAt
 refine Abs.of htr (List.nodup_append.1 hOn).1 ?_ ?_ ?_ (by rw [hlen]; exact h.cap) ?_ ?_ ?_ (hwid.1.trans h.id0) (hwid.2.trans h.g0) ?_ ?_
 ·rw [hfree, List.map_append, List.map_singleton, Int.toNat_natCast]
  have e : (post C 0 top2 ++ (A.free.map Int.toNat ++ [i])).Perm (post A 0 top ++ A.free.map Int.toNat) := by
   refine List.Perm.trans ?_ (hP.append_right _)
   rw [List.append_assoc]
   exact List.Perm.append_left _ List.perm_append_comm
  exact e.nodup_iff.2 h.nd
 ·rw [hlen, hfree]
  intro x hx
  rcases List.mem_append.1 hx with hx | hx
  ·exact h.frb x hx
  ·exact ⟨i, List.mem_singleton.1 hx, hiA⟩
 ·rw [hlen, hfree, List.length_append, List.length_singleton]
  have := h.len
  omega
 ·intro j hj
  obtain ⟨h1, h2⟩ := hmem j hj
  rw [hCid j h1 h2, hat, if_neg, h.at_ j h1]
  intro e
  rw [← hnid] at e
  exact h2 (h.tr.inj h.od h1 hii e)
 ·intro x hx
  rw [hat]
  by_cases hxn : x = n.id
  ·rw [if_pos hxn]
  ·rw [if_neg hxn]
   refine h.atn x fun hm => ?_
   rcases List.mem_append.1 (hO.mem_iff.2 hm) with e | e
   ·exact hx e
   ·exact hxn (List.mem_singleton.1 e)
 ·have := h.cnt
  omega
 ·exact fun x hx => h.i64 x (hO.mem_iff.1 (List.mem_append.2 (.inl hx)))
 ·intro j cc hj hnj
  by_cases hji : j = i
  ·rw [hji, hCi] at hj
   injection hj with hj
   subst hj
   exact CelOk.zero
  ·have hjA : j ∉ post A 0 top := fun e => by
    rcases List.mem_append.1 (hP.mem_iff.2 e) with e | e
    ·exact hnj e
    ·exact hji (List.mem_singleton.1 e)
   rw [hCo j hji (fun e => hjA (e ▸ hyi)) (fun hm => hjA (hin j (m2 j (hroot j hm))))] at hj
   exact h.cel hj
theorem Abs.unwrap2 (h : Abs A top) {i y k : Nat} {yp : Int} {ny n : Nd} {R : List Nat} {RO : List Int} (hl : Lies A i y k) (f : Foc A (-1) 0 top y yp ny R RO) (hk : k < ny.kids.length) (hn : ny.kids[k] = n) (ht : Tr A (y : Int) i n) (hi0 : i ≠ 0)
  (hiA : i < A.cells.length) (hyA : y < A.cells.length) (kv : Value) :
  i ≠ y ∧ (∀ x ∈ (A.cells[i]).kids, ∃ z : Nat, x = (z : Int) ∧ z < A.cells.length ∧ z ≠ i ∧ z ≠ y) ∧
  Tr (((A.setPars (A.cells[i]).kids (y : Int)).setKids y ((A.cells[y]).kids.take k ++ (A.cells[i]).kids ++ (A.cells[y]).kids.drop (k + 1)) kv).setKids i [] (.slice none 0 0)) (y : Int) i (.mk n.id n.grp []) ∧
  ∀ C, Drops (((A.setPars (A.cells[i]).kids (y : Int)).setKids y ((A.cells[y]).kids.take k ++ (A.cells[i]).kids ++ (A.cells[y]).kids.drop (k + 1)) kv).setKids i [] (.slice none 0 0)) C (post (((A.setPars (A.cells[i]).kids (y : Int)).setKids y ((A.cells[y]).kids.take k ++ (A.cells[i]).kids ++ (A.cells[y]).kids.drop (k + 1)) kv).setKids i [] (.slice none 0 0)) i (.mk n.id n.grp [])) (Nd.mk n.id n.grp []).order →
   Abs C (Nd.with_ ny.id (ny.kids.take k ++ (n.kids ++ ny.kids.drop (k + 1))) top) := by
 obtain ⟨_, hidn, hgrn, hparn, hkn⟩ := ht.ex
 obtain ⟨_, hpi⟩ := post_eq ht
 have hi : i ∈ post A 0 top := by
  have hy : y ∈ post A 0 top := f.mem (self_post A y ny)
  obtain ⟨_, _, _, e2, _⟩ := hl
  obtain ⟨q, e, hq, _⟩ := h.tr.kid_in hy hyA (List.mem_of_getElem? e2)
  have : q = i := by omega
  rw [← this]; exact hq
 obtain ⟨qp2, n2, R2, RO2, fi⟩ := h.foc hi
 have hn2 : n2 = n := fi.tr.uniq ht
 subst hn2
 obtain ⟨_, _, _, hinot⟩ := fi.posts_dis h.pnd
 obtain ⟨_, hpy, hps, hyp⟩ := f.posts_dis h.pnd
 have hyi : y ∉ post A i n2 := fun hm => by
  -- y would be below i, which is below y
  obtain ⟨_, _, _, e2, _⟩ := hl
  obtain ⟨_, _, _, _, hks⟩ := f.tr.ex
  have hkk : k < (A.cells[y]).kids.length := (List.getElem?_eq_some_iff.1 e2).1
  obtain ⟨s1, s2, s3⟩ := Trs.split k hks
  have hki : (A.cells[y]).kids[k] = (i : Int) := by rw [List.getElem?_eq_getElem hkk] at e2; injection e2
  rw [drop_eq hkk, drop_eq hk, hki, hn, posts_cons] at s3
  exact hyp (by rw [s3]; exact List.mem_append.2 (.inr (List.mem_append.2 (.inl hm))))
 have hiy : i ≠ y := fun e => hyi (e ▸ self_post A i n2)
 have hkid : ∀ x ∈ (A.cells[i]).kids, ∃ z : Nat, x = (z : Int) ∧ z ∈ posts A (A.cells[i]).kids n2.kids := fun x hx => by
  obtain ⟨z, e, _⟩ := h.tr.kid_in hi hiA hx
  subst e
  exact ⟨z, rfl, mem_l hkn hx⟩
 have hint : ∀ x ∈ (A.cells[i]).kids, ∃ z : Nat, x = (z : Int) := fun x hx => by obtain ⟨z, e, _⟩ := hkid x hx; exact ⟨z, e⟩
 have hzne : ∀ z ∈ posts A (A.cells[i]).kids n2.kids, z ≠ i ∧ z ≠ y := fun z hz => ⟨fun e => hinot (e ▸ hz), fun e => hyi (by rw [hpi, ← e]; exact List.mem_append.2 (.inl hz))⟩
 have hni : (i : Int) ∉ (A.cells[i]).kids := fun hm => (hzne i (mem_l hkn hm)).1 rfl
 have hny : (y : Int) ∉ (A.cells[i]).kids := fun hm => (hzne y (mem_l hkn hm)).2 rfl
 obtain ⟨p1, p2, p3, p4, p5, p6⟩ := setPars_same (A.cells[i]).kids A (y : Int)
 have hgi : (A.setPars (A.cells[i]).kids (y : Int)).cells[i]? = A.cells[i]? := by rw [setPars_get _ hint, if_neg hni]
 have hgy : (A.setPars (A.cells[i]).kids (y : Int)).cells[y]? = A.cells[y]? := by rw [setPars_get _ hint, if_neg hny]
 have hgk := fun (j : Nat) => setPars_get _ hint A (y : Int) j
 generalize A.setPars (A.cells[i]).kids (y : Int) = D at *
 have hD1 : ∀ j, (D.setKids y ((A.cells[y]).kids.take k ++ (A.cells[i]).kids ++ (A.cells[y]).kids.drop (k + 1)) kv).cells[j]? = if y = j then (D.cells[j]?).map (fun c => { c with kids := (A.cells[y]).kids.take k ++ (A.cells[i]).kids ++ (A.cells[y]).kids.drop (k + 1), kv := kv }) else D.cells[j]? := fun j => setKids_get _ _ _ _ _
 have hl1 : (D.setKids y ((A.cells[y]).kids.take k ++ (A.cells[i]).kids ++ (A.cells[y]).kids.drop (k + 1)) kv).cells.length = A.cells.length := by rw [Ar.setKids_len, p6]
 have hf1 : (D.setKids y ((A.cells[y]).kids.take k ++ (A.cells[i]).kids ++ (A.cells[y]).kids.drop (k + 1)) kv).free = A.free := p3
 have ha1 : (D.setKids y ((A.cells[y]).kids.take k ++ (A.cells[i]).kids ++ (A.cells[y]).kids.drop (k + 1)) kv).at_ = A.at_ := p4
 have hc1 : (D.setKids y ((A.cells[y]).kids.take k ++ (A.cells[i]).kids ++ (A.cells[y]).kids.drop (k + 1)) kv).cnt = A.cnt := p5
 generalize D.setKids y ((A.cells[y]).kids.take k ++ (A.cells[i]).kids ++ (A.cells[y]).kids.drop (k + 1)) kv = G at *
 have hGi : G.cells[i]? = A.cells[i]? := by rw [hD1, if_neg (Ne.symm hiy), hgi]
 have hiG : i < G.cells.length := by rw [hl1]; exact hiA
 have heG : G.cells[i] = A.cells[i] := by
  rw [List.getElem?_eq_getElem hiG, List.getElem?_eq_getElem hiA] at hGi; injection hGi
 obtain ⟨hiH, eH⟩ := setKids_at G i [] (.slice none 0 0) hiG
 have hHne : ∀ j, j ≠ i → (G.setKids i [] (.slice none 0 0)).cells[j]? = G.cells[j]? := fun j hj => setKids_ne _ _ _ _ hj
 have hHl : (G.setKids i [] (.slice none 0 0)).cells.length = A.cells.length := by rw [Ar.setKids_len, hl1]
 have hHf : (G.setKids i [] (.slice none 0 0)).free = A.free := hf1
 have hHa : (G.setKids i [] (.slice none 0 0)).at_ = A.at_ := ha1
 have hHc : (G.setKids i [] (.slice none 0 0)).cnt = A.cnt := hc1
 generalize G.setKids i [] (.slice none 0 0) = H at *
 rw [heG] at eH
 have htH : Tr H (y : Int) i (.mk n2.id n2.grp []) := Tr.mk hiH (by rw [eH]; exact hidn) (by rw [eH]; exact hgrn) (by rw [eH]; exact hparn) (by rw [eH]; exact Trs.nil _ _)
 have hpH : post H i (.mk n2.id n2.grp []) = [i] := by rw [(post_eq htH).2, eH]; rfl
 refine ⟨hiy, fun x hx => ?_, htH, fun C hC => ?_⟩
 ·obtain ⟨z, e, hz⟩ := hkid x hx
  exact ⟨z, e, hkn.lt z hz, (hzne z hz).1, (hzne z hz).2⟩
 rw [hpH] at hC
 have hCo : ∀ j, j ≠ i → C.cells[j]? = G.cells[j]? := fun j hj => (hC.d.out j (by rw [List.mem_singleton]; exact hj)).trans (hHne j hj)
 refine h.unwrap hl f hk hn ht hi0 hiA hyA kv (hC.d.len.trans hHl) ?_ ?_ ?_ (hC.d.inn i (List.mem_singleton.2 rfl) hiH) ?_ ?_ ?_
 ·rw [hC.d.free, hHf]; rfl
 ·intro x
  rw [hC.at_, hHa]
  simp only [Nd.order, Nd.orders, List.mem_singleton]
 ·have := hC.cnt
  rw [hHc] at this
  simpa [Nd.order, Nd.orders] using this
 ·intro x hx
  have hz := hzne x (mem_l hkn hx)
  rw [hCo x hz.1, hD1, if_neg (Ne.symm hz.2), hgk, if_pos hx]
 ·rw [hCo y (Ne.symm hiy), hD1, if_pos rfl, hgy, List.getElem?_eq_getElem hyA]; rfl
 ·intro j h1 h2 h3
  rw [hCo j h1, hD1, if_neg (Ne.symm h2), hgk, if_neg h3]
end
end Go.Tr

namespace Go.Tr
open Go.Sl Go.Ls
theorem setPars_id (l : List Int) (hl : ∀ x ∈ l, ∃ q : Nat, x = (q : Int)) (A : Ar) (p : Int) (j : Nat) : (A.setPars l p).idAt j = A.idAt j := by
 rw [Ar.idAt, Ar.idAt, setPars_get l hl]
 split
 ·cases A.cells[j]? <;> rfl
 ·rfl
end Go.Tr
namespace Go.Proofs.YtggcpoleklcmkaaGreatDoor
open Go.Sl Go.Ls Go.Tr
def RetAU (A : Ar) (r : Nd × Int × Int × Int × Int) : Value → Mem → List HP → Prop := fun v I' L' => I' = I' ∧ ∃ B, v = .tuple #[vi r.2.1, vi r.2.2.1, vi r.2.2.2.1, vi r.2.2.2.2] ∧ B.b = A.b ∧ L' = B.hp ∧ Abs B r.1
theorem tUnwrap (A : Ar) (top : Nd) (hA : Abs A top) (i : Int) (I : Mem) :
  Ctr Tryz.prog 115 [ptr A.b, vi i] I A.hp (RetAU A (Nd.unwrap top i)) := by
 have hsle := hA.size_le
 have hcap := hA.cap
 refine Ctr.intro Tryz.func115 rfl rfl rfl fun E F => ?_
 refine jS (jf rfl (jf rfl (jf rfl (jf rfl (jN (jd rfl (ja rfl (WL.callK [1, 1, 1, 1, 1] rfl rfl rfl (tInner A i _) rfl ?_))))))))
 rintro _ rfl
 by_cases h0 : i = 0
 ·rw [if_pos h0]
  refine je rfl (jm (jq rfl rfl) (jm (jq rfl rfl) (jf rfl (jf rfl (jM (jB (jS (ja rfl (jv rfl rfl (jb rfl (jH (jH (jH (jH (jH (jH (jH (jH (jH (jk rfl (jM (jE (jV (jA (jB (jS (ja rfl (jJ rfl rfl (jM (jF (jS (ja rfl (jf rfl (jf rfl (jf rfl (jf rfl (jM (jR (jU ?_)))))))))))))))))))))))))))))))))))))))
  refine jP [0, 0, 0, 0, 0] (RunRes.r4 rfl (jtI rfl) (jtI rfl) (jtI rfl) (jtI rfl)) ?_
  rw [Nd.unwrap, Nd.remove, if_pos h0]
  exact ⟨rfl, A, rfl, rfl, rfl, hA⟩
 rw [if_neg h0]
 rcases hA.cases i with ⟨hat, hn⟩ | ⟨q, hat, hq, hid, hm⟩
 ·rw [hat]
  simp only
  refine je rfl (jm (jq rfl rfl) (jm (jq rfl rfl) (jf rfl (jf rfl (jM (jB (jS (ja rfl (jv rfl rfl (jb rfl (jH (jH (jH (jH (jH (jH (jH (jH (jH (jk rfl (jM (jE (jV (jA (jB (jS (ja rfl (jJ rfl rfl (jM (jF (jS (ja rfl (jf rfl (jf rfl (jf rfl (jf rfl (jM (jR (jU ?_)))))))))))))))))))))))))))))))))))))))
  refine jP [0, 0, 0, 0, 0] (RunRes.r4 rfl (jtI rfl) (jtI rfl) (jtI rfl) (jtI rfl)) ?_
  rw [Nd.unwrap, Nd.remove, if_neg h0, Nd.find_none _ _ hn]
  exact ⟨rfl, A, rfl, rfl, rfl, hA⟩
 rw [hat]
 simp only
 have hq0 : q ≠ 0 := fun e => h0 (by rw [← hid]; exact (hA.ne0 hq).2 e)
 obtain ⟨y, k, yp, ny, n, R, RO, hk, hlies, f, hkn, htq, hidn, hfind, hwhr, hfy, hrem⟩ := hA.node hq hq0
 rw [hid] at hrem
 have hun : Nd.unwrap top i = (if n.grp = false then (top, 0, 0, 0, 33) else (Nd.with_ ny.id (ny.kids.take k ++ (n.kids ++ ny.kids.drop (k + 1))) top, ny.id, (k : Int), (n.kids.length : Int), 0)) := by
  rw [Nd.unwrap, hrem]
  simp only [hfy, Option.getD_some, Int.toNat_natCast]
  rfl
 rw [hun]
 have hl := hlies
 obtain ⟨hql, hyl, hpar, e2, e3⟩ := hl
 obtain ⟨_, hcid, hcg, _, hks⟩ := htq.ex
 have hlk := hks.len
 have hc := Ar.c2 hql
 rw [hpar] at hc
 have hc1 := Ar.c1 hql
 rw [hcg] at hc1
 have hc3 := Ar.c3 hql
 have hrow := Ar.row hql
 have hkl := hA.ok.kidl _ (List.getElem_mem hql)
 have hky := hA.ok.kidl _ (List.getElem_mem hyl)
 cases hng : n.grp
 ·rw [hng] at hc1
  refine je rfl (jm (jq rfl rfl) (jm (jq rfl rfl) (jf rfl (jf rfl (jM (jB (jS (ja rfl (jw rfl rfl (jb rfl (jG (jd rfl (jG (jm (jr rfl) (jG (jm (jn rfl) (jG (jm (jp 1 rfl rfl rfl) (jG (ja rfl (jG (jm (jZ rfl rfl) (jG (jm (jn rfl) (jG (jm (Val.loadS rfl (Rd.sl1 2 rfl (by assumption))) ?_))))))))))))))))))))))))))
  refine jG (jl rfl (jk rfl (jM (jF (jD (jf rfl (jM (jB (jS (ja rfl (jJ rfl rfl (jM (jF (jS (ja rfl (jf rfl (jf rfl (jf rfl (jf rfl (jM (jR (jU ?_))))))))))))))))))))))
  exact jP [0, 0, 0, 0, 0] (RunRes.r4 rfl (jtI rfl) (jtI rfl) (jtI rfl) (jtI rfl)) ⟨rfl, A, rfl, rfl, rfl, hA⟩
 rw [hng] at hc1
 simp only [Bool.true_eq_false, if_false]
 refine WL.rowOpen 5 q rfl hrow fun sa sc hkvq hsg => ?_
 rw [hkvq] at hc3
 refine je rfl (jm (jq rfl rfl) (jm (jq rfl rfl) (jf rfl (jf rfl (jM (jB (jS (ja rfl (jw rfl rfl (jb rfl (jG (jd rfl (jG (jm (jr rfl) (jG (jm (jn rfl) (jG (jm (jp 1 rfl rfl rfl) (jG (ja rfl (jG (jm (jZ rfl rfl) (jG (jm (jn rfl) (jG (jm (Val.loadS rfl (Rd.sl1 2 rfl (by assumption))) ?_))))))))))))))))))))))))))
 refine jG (jl rfl (jk rfl (jM (jE (jV (jA (jB (jS (ja rfl (jz rfl rfl (jM (jE (jV (jK (jd rfl (jm (jr rfl) (jm (jn rfl) (jm (jp 1 rfl rfl rfl) (ja rfl (jm (jZ rfl rfl) (jm (jn rfl) (jm (Val.loadS rfl (Rd.sl1 2 rfl (by assumption))) ?_))))))))))))))))))))))
 refine jf rfl (jN (jd rfl (ja rfl (WL.callK [1, 1, 1, 1, 1] rfl rfl rfl (tIndex A q y _ hA.ok hql hpar hyl) rfl ?_))))
 rintro v (⟨k', rfl, g1, g2⟩ | ⟨rfl, g1⟩)
 case inr => exact absurd (List.mem_of_getElem? e2) g1
 have hkk : k' = k := by
  rcases Nat.lt_trichotomy k' k with q | q | q
  ·exact absurd (mem_take? q g1) e3
  ·exact q
  ·exact absurd (mem_take? q e2) g2
 subst hkk
 have hkly : k' < (A.cells[y]).kids.length := (List.getElem?_eq_some_iff.1 e2).1
 obtain ⟨hqy, hkid, _, _⟩ := hA.unwrap2 hlies f hk hkn htq hq0 hql hyl (.slice none 0 0)
 have hu3 := fun kv => (hA.unwrap2 hlies f hk hkn htq hq0 hql hyl kv).2.2
 have hint : ∀ x ∈ (A.cells[q]).kids, ∃ z : Nat, x = (z : Int) := fun x hx => by obtain ⟨z, e, _⟩ := hkid x hx; exact ⟨z, e⟩
 have hnq : (q : Int) ∉ (A.cells[q]).kids := fun hm => by
  obtain ⟨z, e, _, hne, _⟩ := hkid _ hm
  exact hne (by omega)
 have hny : (y : Int) ∉ (A.cells[q]).kids := fun hm => by
  obtain ⟨z, e, _, _, hne⟩ := hkid _ hm
  exact hne (by omega)
 refine jf rfl (jN (jd rfl (jm (jr rfl) (jm (jn rfl) (jm (jp 1 rfl rfl rfl) (ja rfl (jm (jZ rfl rfl) (jm (jn rfl) (jm (Val.loadS rfl (Rd.sl1 2 rfl (by assumption))) ?_)))))))))
 refine jh rfl (jM (jB (jS (jc rfl (jm (jo rfl) (ja rfl (jM (WC.block ?_))))))))
 refine WC.loop (fun m ρ' I' L' => ∃ j : Nat, m = (A.cells[q]).kids.length - j ∧ j ≤ (A.cells[q]).kids.length ∧ I' = I ∧ ρ' 0 = ptr (A.setPars ((A.cells[q]).kids.take j) y).b ∧ ρ' 5 = vi k' ∧ ρ' 8 = vi q ∧ ρ' 9 = vi y ∧ ρ' 10 = .slice sa (A.cells[q]).kids.length sc ∧ ρ' 54 = .slice sa (A.cells[q]).kids.length sc ∧ ρ' 55 = vi (A.cells[q]).kids.length ∧ ρ' 56 = vi j ∧
   L' = F :: (A.setPars ((A.cells[q]).kids.take j) y).hp)
  (A.cells[q]).kids.length ⟨0, rfl, by omega, rfl, rfl, rfl, rfl, rfl, rfl, rfl, rfl, rfl, rfl⟩ ?_
 rintro m ρ' I' L' ⟨j, rfl, hj, rfl, r0, r5, r8, r9, r10, r54, r55, r56, rfl⟩
 refine ju8 r56 r55 r54 r10 r9 r8 r5 r0 ?_
 have hintk : ∀ x ∈ (A.cells[q]).kids.take j, ∃ z : Nat, x = (z : Int) := fun x hm => hint x (List.mem_of_mem_take hm)
 obtain ⟨pb, _, pf, pat, pc, pl⟩ := setPars_same ((A.cells[q]).kids.take j) A (y : Int)
 have hgq : (A.setPars ((A.cells[q]).kids.take j) y).cells[q]? = A.cells[q]? := by rw [setPars_get _ hintk, if_neg (fun hm => hnq (List.mem_of_mem_take hm))]
 have hgy : (A.setPars ((A.cells[q]).kids.take j) y).cells[y]? = A.cells[y]? := by rw [setPars_get _ hintk, if_neg (fun hm => hny (List.mem_of_mem_take hm))]
 have hqD : q < (A.setPars ((A.cells[q]).kids.take j) y).cells.length := by rw [pl]; exact hql
 have hyD : y < (A.setPars ((A.cells[q]).kids.take j) y).cells.length := by rw [pl]; exact hyl
 have heq : (A.setPars ((A.cells[q]).kids.take j) y).cells[q] = A.cells[q] := by
  rw [List.getElem?_eq_getElem hqD, List.getElem?_eq_getElem hql] at hgq; injection hgq
 have hey : (A.setPars ((A.cells[q]).kids.take j) y).cells[y] = A.cells[y] := by
  rw [List.getElem?_eq_getElem hyD, List.getElem?_eq_getElem hyl] at hgy; injection hgy
 have hrowq : ((A.setPars ((A.cells[q]).kids.take j) y).cells.map Cel.row)[q]? = some (sl 3 1 (.slice sa (A.cells[q]).kids.length sc) (A.cells[q]).kids.length ((A.cells[q]).kids.map vi)) := by
  rw [Ar.row hqD, heq, hkvq]
 by_cases hjc : j < (A.cells[q]).kids.length
 ·obtain ⟨z, hz, hzl, _, _⟩ := hkid (A.cells[q]).kids[j] (List.getElem_mem hjc)
  have hv : ((A.cells[q]).kids.map vi)[0 + ((j : Nat) : Int).toNat * 1]? = some (vi z) := by
   rw [Nat.zero_add, Int.toNat_natCast, Nat.mul_one, List.getElem?_map, List.getElem?_eq_getElem hjc, hz]; rfl
  have hsnoc : A.setPars ((A.cells[q]).kids.take (j + 1)) y = (A.setPars ((A.cells[q]).kids.take j) y).setPar z y := by
   rw [take1 _ j hjc, setPars_snoc, hz, Int.toNat_natCast]
  have hzD : z < (A.setPars ((A.cells[q]).kids.take j) y).cells.length := by rw [pl]; exact hzl
  have hhp := Ar.setPar_hp (A.setPars ((A.cells[q]).kids.take j) y) z y hzD
  rw [← hsnoc] at hhp
  have hb2 : (A.setPars ((A.cells[q]).kids.take (j + 1)) y).b = (A.setPars ((A.cells[q]).kids.take j) y).b := by rw [hsnoc]; rfl
  generalize A.setPars ((A.cells[q]).kids.take j) (y : Int) = D at *
  obtain ⟨g, rfl⟩ := hsg (by omega)
  refine jS (jy rfl rfl (jM (jB (jF (jV (jA (jB (WC.block (jS (jm (jZ rfl rfl) (jm (Val.loadS rfl (Rd.row1 5 q rfl hrowq hv)) ?_)))))))))))
  refine jf rfl (jM (jD (jd rfl (jm (jr rfl) (jm (jn rfl) (jm (jp 1 rfl rfl rfl) (ja rfl (ja rfl (jm (jZ rfl rfl) (jm (jn rfl) (WL.storeSl 2 rfl rfl rfl rfl (by show 0 + (z : Int).toNat * 4 + 2 + 1 ≤ D.cells.length * 4; rw [Int.toNat_natCast]; omega) ?_)))))))))))
  refine WL.nSet ?_
  exact jC (WX.inNormal (jA (jD (jX rfl rfl (ja rfl (jC (WX.thenK (WK.round ((A.cells[q]).kids.length - (j + 1)) (by omega) ⟨j + 1, rfl, by omega, rfl, by rw [hb2]; rfl, rfl, rfl, rfl, rfl, rfl, rfl, rfl, by rw [hhp]; rfl⟩))))))))
 have hfull : (A.cells[q]).kids.take j = (A.cells[q]).kids := List.take_of_length_le (by omega)
 have hDid := setPars_id (A.cells[q]).kids hint A (y : Int)
 have hc3y := Ar.c3 hyD
 have hrowy := Ar.row hyD
 rw [hey] at hc3y hrowy
 simp only [hfull] at pb pf pat pc pl hgq hgy hqD hyD hrowq hc3y hrowy ⊢
 generalize hDD : A.setPars (A.cells[q]).kids (y : Int) = D at *
 refine jS (jx rfl rfl (jM (jB (jE (WC.exit (WX.thenExit (WX.thenExit (WX.inHit (jA (jB (WC.rowOpen 5 y rfl hrowy fun rb rd hkvy _ => ?_)))))))))))
 rw [hkvy] at hc3y hrowy
 refine j8 20 [1, 1] rfl (jT 0 rfl (Val.moveP rfl) (jT 1 rfl (jr rfl) (jT 2 rfl (jn rfl) (jT 3 rfl (jp 0 rfl rfl rfl) (jT 4 rfl (Val.moveI rfl) (jT 5 rfl (Val.moveP rfl) (jT 6 rfl (jr rfl) (jT 7 rfl (jn rfl) (jT 8 rfl (jp 0 rfl rfl rfl) (jT 9 rfl (Val.moveI rfl) (jT 10 rfl (jZ rfl rfl) (jT 11 rfl (jn rfl) (jT 12 rfl (Val.loadS rfl (Rd.sl1 1 rfl hc3y)) ?_)))))))))))))
 refine jT 13 rfl (Val.moveI rfl) (jT 14 rfl (Val.moveI rfl) (jT 15 rfl (Val.add rfl rfl (wrap_i64 (by omega) (by omega))) ?_))
 refine jT 16 rfl (Val.moveS rfl) (j5 17 rfl ?_)
 have eac : ((k' : Int) + 1) = ((k' + 1 : Nat) : Int) := by omega
 rw [eac]
 have hrowy2 : ((D.cells.map Cel.row).set q (sl 3 1 (.slice none 0 0) 0 []))[y]? = some (sl 3 1 (.slice rb (A.cells[y]).kids.length rd) (A.cells[y]).kids.length ((A.cells[y]).kids.map vi)) := by
  rw [List.getElem?_set_ne hqy]; exact hrowy
 refine WL.rowSwap 3 1 5 q rfl hrowq ?_
 refine WL.rowTake 6 y rfl hrowy2 ?_
 refine WL.callP [0, 0] rfl rfl (sReplace (A.cells[y]).kids (A.cells[q]).kids k' (k' + 1) (.slice rb (A.cells[y]).kids.length rd) (.slice sa (A.cells[q]).kids.length sc) _ (by omega) (by omega) (fun h => by omega) (by omega)) rfl ?_
 rintro rv _ _ hI5 ⟨rfl, rfl⟩
 refine jW ?_
 have hlen : ((A.cells[y]).kids.take k' ++ (A.cells[q]).kids ++ (A.cells[y]).kids.drop (k' + 1)).length = k' + (A.cells[q]).kids.length + ((A.cells[y]).kids.length - (k' + 1)) := by
  simp only [List.length_append, List.length_take, List.length_drop]; omega
 rw [← hlen]
 refine WL.conv (fun w h => h.sub [6, 0, 0, 0, 0, 0, 0] rfl) ?_
 refine WL.rowPut 5 y rfl (by simpa using hyD) ?_
 refine WL.nSet ?_
 refine WL.rowOpen 5 y rfl (List.getElem?_set_self (by simpa using hyD)) fun ra2 rc2 hr _ => ?_
 subst hr
 refine jC (j7 [1, 1] rfl (j5 18 rfl (jm (jZ rfl rfl) (jC (j7 [1, 1] rfl (j5 19 rfl (jm (jn rfl) (jC (j7 [1, 1] rfl (j5 20 rfl (WL.storeSl 2 rfl rfl rfl rfl (by show 0 + (y : Int).toNat * 4 + 3 + 1 ≤ D.cells.length * 4; rw [Int.toNat_natCast]; omega) ?_)))))))))))
 refine WL.nSet ?_
 refine jC (WK.anyLast (WA.done (by kernel_rfl) (jK (jd rfl (jm (jr rfl) (jm (jn rfl) (jm (jp 1 rfl rfl rfl) (ja rfl (jm (jZ rfl rfl) (jm (jn rfl) (WL.storeSl 2 rfl rfl rfl rfl (by show 0 + (q : Int).toNat * 4 + 3 + 1 ≤ D.cells.length * 4; rw [Int.toNat_natCast]; omega) ?_)))))))))))
 refine WL.nSet ?_
 obtain ⟨htH, hAbsC⟩ := hu3 (.slice ra2 ((A.cells[y]).kids.take k' ++ (A.cells[q]).kids ++ (A.cells[y]).kids.drop (k' + 1)).length rc2)
 have hG1 := D.setKids_flat y ((A.cells[y]).kids.take k' ++ (A.cells[q]).kids ++ (A.cells[y]).kids.drop (k' + 1)) (.slice ra2 ((A.cells[y]).kids.take k' ++ (A.cells[q]).kids ++ (A.cells[y]).kids.drop (k' + 1)).length rc2) hyD
 have hG2 := D.setKids_rows y ((A.cells[y]).kids.take k' ++ (A.cells[q]).kids ++ (A.cells[y]).kids.drop (k' + 1)) (.slice ra2 ((A.cells[y]).kids.take k' ++ (A.cells[q]).kids ++ (A.cells[y]).kids.drop (k' + 1)).length rc2) hyD
 have hG3 := D.setKids_len y ((A.cells[y]).kids.take k' ++ (A.cells[q]).kids ++ (A.cells[y]).kids.drop (k' + 1)) (.slice ra2 ((A.cells[y]).kids.take k' ++ (A.cells[q]).kids ++ (A.cells[y]).kids.drop (k' + 1)).length rc2)
 have hG4 := setKids_id D y ((A.cells[y]).kids.take k' ++ (A.cells[q]).kids ++ (A.cells[y]).kids.drop (k' + 1)) (.slice ra2 ((A.cells[y]).kids.take k' ++ (A.cells[q]).kids ++ (A.cells[y]).kids.drop (k' + 1)).length rc2) y
 have hGb : (D.setKids y ((A.cells[y]).kids.take k' ++ (A.cells[q]).kids ++ (A.cells[y]).kids.drop (k' + 1)) (.slice ra2 ((A.cells[y]).kids.take k' ++ (A.cells[q]).kids ++ (A.cells[y]).kids.drop (k' + 1)).length rc2)).b = D.b ∧ (D.setKids y ((A.cells[y]).kids.take k' ++ (A.cells[q]).kids ++ (A.cells[y]).kids.drop (k' + 1)) (.slice ra2 ((A.cells[y]).kids.take k' ++ (A.cells[q]).kids ++ (A.cells[y]).kids.drop (k' + 1)).length rc2)).mb = D.mb ∧
  (D.setKids y ((A.cells[y]).kids.take k' ++ (A.cells[q]).kids ++ (A.cells[y]).kids.drop (k' + 1)) (.slice ra2 ((A.cells[y]).kids.take k' ++ (A.cells[q]).kids ++ (A.cells[y]).kids.drop (k' + 1)).length rc2)).cg = D.cg ∧ (D.setKids y ((A.cells[y]).kids.take k' ++ (A.cells[q]).kids ++ (A.cells[y]).kids.drop (k' + 1)) (.slice ra2 ((A.cells[y]).kids.take k' ++ (A.cells[q]).kids ++ (A.cells[y]).kids.drop (k' + 1)).length rc2)).cc = D.cc ∧
  (D.setKids y ((A.cells[y]).kids.take k' ++ (A.cells[q]).kids ++ (A.cells[y]).kids.drop (k' + 1)) (.slice ra2 ((A.cells[y]).kids.take k' ++ (A.cells[q]).kids ++ (A.cells[y]).kids.drop (k' + 1)).length rc2)).fv = D.fv ∧ (D.setKids y ((A.cells[y]).kids.take k' ++ (A.cells[q]).kids ++ (A.cells[y]).kids.drop (k' + 1)) (.slice ra2 ((A.cells[y]).kids.take k' ++ (A.cells[q]).kids ++ (A.cells[y]).kids.drop (k' + 1)).length rc2)).free = D.free ∧
  (D.setKids y ((A.cells[y]).kids.take k' ++ (A.cells[q]).kids ++ (A.cells[y]).kids.drop (k' + 1)) (.slice ra2 ((A.cells[y]).kids.take k' ++ (A.cells[q]).kids ++ (A.cells[y]).kids.drop (k' + 1)).length rc2)).at_ = D.at_ ∧ (D.setKids y ((A.cells[y]).kids.take k' ++ (A.cells[q]).kids ++ (A.cells[y]).kids.drop (k' + 1)) (.slice ra2 ((A.cells[y]).kids.take k' ++ (A.cells[q]).kids ++ (A.cells[y]).kids.drop (k' + 1)).length rc2)).cnt = D.cnt := ⟨rfl, rfl, rfl, rfl, rfl, rfl, rfl, rfl⟩
 generalize D.setKids y ((A.cells[y]).kids.take k' ++ (A.cells[q]).kids ++ (A.cells[y]).kids.drop (k' + 1)) (.slice ra2 ((A.cells[y]).kids.take k' ++ (A.cells[q]).kids ++ (A.cells[y]).kids.drop (k' + 1)).length rc2) = G at *
 obtain ⟨gb, gmb, gcg, gcc, gfv, gf, ga, gc⟩ := hGb
 have hqG : q < G.cells.length := by rw [hG3]; exact hqD
 have hHhp := Ar.setKids_hp G q [] (.slice none 0 0) hqG
 have hH4 := setKids_id G q [] (.slice none 0 0) y
 have hH3 := Ar.setKids_len G q [] (.slice none 0 0)
 have hHb : (G.setKids q [] (.slice none 0 0)).b = G.b := rfl
 have hHf : (G.setKids q [] (.slice none 0 0)).free = G.free := rfl
 have hHa : (G.setKids q [] (.slice none 0 0)).at_ = G.at_ := rfl
 have hHc : (G.setKids q [] (.slice none 0 0)).cnt = G.cnt := rfl
 have hlook : G.look = D.look := by unfold Ar.look; rw [ga]
 simp only [Ar.cv, gb, gmb, gcg, gcc, gfv, gf, gc, hlook, hG1, hG2, hG3] at hHhp
 rw [List.set_comm _ _ (Ne.symm hqy)] at hHhp
 refine WL.conv (L' := F :: (G.setKids q [] (.slice none 0 0)).hp) (fun w h => by rw [hHhp]; exact h) ?_
 generalize G.setKids q [] (.slice none 0 0) = H at *
 have hHb2 : H.b = D.b := hHb.trans gb
 rw [← hHb2]
 have hHl : H.cells.length = A.cells.length := by rw [hH3, hG3, pl]
 have hHf2 : H.free = A.free := by rw [hHf, gf, pf]
 have hHa2 : H.at_ = A.at_ := by rw [hHa, ga, pat]
 have hHc2 : H.cnt = A.cnt := by rw [hHc, gc, pc]
 have hHy : H.idAt y = ny.id := by rw [hH4, hG4, hDid, f.id]
 have hs1 : (Nd.mk n.id n.grp []).size = 1 := by simp [Nd.size, Nd.sizes]
 have hpost1 : post H q (.mk n.id n.grp []) = [q] := by
  obtain ⟨_, e⟩ := post_eq htH
  have hh := htH.ex
  obtain ⟨_, _, _, _, h5⟩ := hh
  have := List.eq_nil_of_length_eq_zero h5.len
  rw [e, this]; rfl
 refine jN (jd rfl (ja rfl ?_))
 refine WL.callAll rfl rfl (tDrop _ (.mk n.id n.grp []) (Nat.le_refl _) H y q _ (by omega) (by omega) (by rw [hHf2, hs1]; have := hA.len; omega) htH (by simp [Nd.order, Nd.orders]) (fun x hx => ?_) (by rw [hHc2, hs1, hA.cnt]; have := Nd.size_pos top; omega)) rfl ?_
 ·simp only [Nd.order, Nd.orders, List.mem_singleton] at hx
  rw [hHa2, hx, hidn, hid, hat]; rfl
 rintro _ _ _ hI6 ⟨rfl, C, rfl, hC⟩
 have hCl : C.cells.length = A.cells.length := hC.d.len.trans hHl
 have hyC : y < C.cells.length := by rw [hCl]; exact hyl
 have hCy : (C.cells[y]).id = ny.id := by
  rw [← Ar.idAt_eq hyC, Ar.idAt_congr (hC.d.out y (by rw [hpost1, List.mem_singleton]; exact Ne.symm hqy)), hHy]
 have hcC := Ar.c0 hyC
 rw [hCy] at hcC
 have hCb : C.b = H.b := hC.d.b
 rw [← hCb]
 refine jN (jd rfl (jm (jr rfl) (jm (jn rfl) (jm (jp 1 rfl rfl rfl) (ja rfl (jm (jZ rfl rfl) (jm (jn rfl) (jm (Val.loadS rfl (Rd.sl1 2 rfl (by assumption))) ?_))))))))
 refine ja rfl (jc rfl (jm (jo rfl) (jf rfl (jf rfl (jf rfl (jf rfl (jM (jR ?_))))))))
 refine jP [0, 0, 0, 0, 0] (RunRes.r4 rfl (jtI rfl) (jtI rfl) (jtI rfl) (jtI rfl)) ?_
 refine ⟨rfl, C, ?_, ?_, rfl, hAbsC C hC⟩
 ·rw [hlk]
 ·rw [hCb, hHb2, pb]
end Go.Proofs.YtggcpoleklcmkaaGreatDoor

namespace Go.Tr
open Go.Sl Go.Ls
section
variable {A : Ar} {top : Nd}
theorem Abs.find (h : Abs A top) (i : Int) : (A.at_ i).isSome = (Nd.find i top).isSome ∧ ∀ n : Nat, A.at_ i = some (n : Int) → ∃ p, Tr A p n ((Nd.find i top).getD Nd.zero) := by
 refine ⟨by rw [Bool.eq_iff_iff, h.at_iff, Nd.find_some], fun n hn => ?_⟩
 obtain ⟨hm, hid, _⟩ := h.at_mem hn
 obtain ⟨qp, np, R, RO, f⟩ := h.foc hm
 have : np.id = i := by rw [← f.id, hid]
 rw [← this, f.find]
 exact ⟨qp, f.tr⟩
theorem Abs.fsize (h : Abs A top) (i : Int) : ((Nd.find i top).getD Nd.zero).size ≤ 100000 := by
 have := h.size_le
 cases hf : Nd.find i top with
 | none => show Nd.zero.size ≤ _; rw [show Nd.zero.size = 1 from rfl]; omega
 | some m => have := Nd.find_size i top m hf; show m.size ≤ _; omega
end
end Go.Tr
namespace Go.Proofs.YtggcpoleklcmkaaGreatDoor
open Go.Sl Go.Ls Go.Tr
theorem KeepR.mono {L : List HP} {R R' : Value → Mem → Prop} (h : ∀ v I, R v I → R' v I) : ∀ v I' L', KeepR L R v I' L' → KeepR L R' v I' L' := fun v I' L' ⟨h1, h2⟩ => ⟨h1, h v I' h2⟩
theorem aNode (A : Ar) (top : Nd) (hA : Abs A top) (i : Int) (I : Mem) :
  Ctr Tryz.prog 29 [ptr A.b, vi i] I A.hp (KeepR A.hp fun v I' => ∃ nv, v = .tuple #[nv, .bool (Nd.find i top).isSome] ∧ NdAt ((Nd.find i top).getD Nd.zero) nv I') := by
 obtain ⟨h1, h2⟩ := hA.find i
 have h3 := hA.fsize i
 refine (tNodeI A i ((Nd.find i top).getD Nd.zero) I hA.ok (by omega) h2).mono fun v I' L' _ => KeepR.mono (fun v I h => ?_) v I' L'
 rw [h1] at h
 cases hf : Nd.find i top with
 | none => rw [hf] at h; exact h
 | some m => rw [hf] at h; exact h
theorem aIsGroup (A : Ar) (top : Nd) (hA : Abs A top) (i : Int) (I : Mem) :
  Ctr Tryz.prog 116 [ptr A.b, vi i] I A.hp (Keep I A.hp fun v => v = .bool (((Nd.find i top).map Nd.grp).getD false)) := by
 refine (tIsGroup A i I hA.ok).mono fun v I' L' _ ⟨a, b, c⟩ => ⟨a, b, ?_⟩
 rw [c]
 rcases hA.grp i with ⟨hg, hf⟩ | ⟨q, qp, np, R, RO, hq, _, _, _, hf, _, _, hg⟩
 ·rw [hg, hf]; rfl
 ·rw [hg, hf]
  simp only [Option.map_some, Option.getD_some]
  cases np.grp <;> rfl
def whrV (r : Option (Int × Int)) : Value := match r with
 | none => .tuple #[vi 0, vi 0, .bool false]
 | some (p, k) => .tuple #[vi p, vi k, .bool true]
theorem aWhere (A : Ar) (top : Nd) (hA : Abs A top) (i : Int) (I : Mem) :
  Ctr Tryz.prog 112 [ptr A.b, vi i] I A.hp (Keep I A.hp fun v => v = whrV (Nd.whr i top)) := by
 have hw : ∀ n : Nat, A.at_ i = some (n : Int) → n ≠ 0 → ∃ (y k : Nat), Lies A n y k ∧ Nd.whr i top = some (A.idAt y, (k : Int)) := fun n hn h0 => by
  obtain ⟨hm, hid, _⟩ := hA.at_mem hn
  obtain ⟨y, _, k, h1, h2⟩ := hA.whr hm h0
  rw [hid] at h2
  exact ⟨y, k, h1, h2⟩
 refine (tWhere A i I hA.ok (fun n hn h0 => ?_)).mono fun v I' L' _ ⟨a, b, c⟩ => ⟨a, b, ?_⟩
 ·obtain ⟨y, k, ⟨h1, h2, h3, h4, h5⟩, _⟩ := hw n hn h0
  exact ⟨h1, y, h2, k, h3, h4, h5⟩
 ·rcases c with ⟨n, hn, p, hpl, k, e, h0, h1, h2, h3, rfl⟩ | ⟨e, rfl⟩
  ·obtain ⟨y, k', ⟨g1, g2, g3, g4, g5⟩, hw2⟩ := hw n e h0
   have hy : y = p := by rw [h1] at g3; omega
   subst hy
   have hk : k' = k := by
    rcases Nat.lt_trichotomy k' k with q | q | q
    ·exact absurd (mem_take? q g4) h3
    ·exact q
    ·exact absurd (mem_take? q h2) g5
   subst hk
   rw [hw2, whrV, Ar.idAt_eq hpl]
  ·rcases e with e | e
   ·rcases hA.cases i with ⟨_, hn⟩ | ⟨q, e2, _⟩
    ·rw [Nd.whr_none _ _ hn]; rfl
    ·rw [e] at e2; cases e2
   ·obtain ⟨_, hid, _⟩ := hA.at_mem (q := 0) e
    rw [hA.tr.idAt] at hid
    rw [← hid, whr_root top hA.od]; rfl
end Go.Proofs.YtggcpoleklcmkaaGreatDoor

namespace Go.Sl
open Go.Ls
def ptk (P : Program) (t : Nat) : Bool := match P.underlying t with
 | some (.pointer _) => true
 | _ => false
class PtK (P : Program) (t : Nat) : Prop where
 is : ptk P t = true
theorem PtK.und {P : Program} {t : Nat} (h : ptk P t = true) : ∃ e, P.underlying t = some (.pointer e) := by
 unfold ptk at h
 split at h
 ·rename_i e he; exact ⟨e, he⟩
 ·cases h
section
variable {Γ : Cx} {ρ : Nat → Value} {I : Mem} {L : List HP} {ty : TypeId}
theorem run_eqNilP {P : Program} {t : Nat} (h : ∃ e, P.underlying t = some (.pointer e)) (a : Option Addr) (w : World) : (Op.equal t (.pointer a) (.pointer none)).run P w = .ok a.isNone w := by
 obtain ⟨e, hu⟩ := h
 unfold Op.equal Op.maxDepth
 show (Op.equalIn (9999 + 1) t (.pointer a) (.pointer none)).run P w = _
 unfold Op.equalIn
 cases a <;> (simp only [Sem.run_bind, run_underlying hu, Result.andThen_ok]; rfl)
theorem Val.eqlNilP {t t' : Nat} {a : Option Addr} {x : Operand} [hk : PtK Γ.P t] (hx : ev ρ x = .pointer a) : Val Γ ρ I L (.binOp .eql t x (.const (.pointer none)) t') ty (.bool a.isNone) :=
 fun w _ => by
  simp only [execOp, hx]
  simp [eqGuard, binOp, run_eqNilP (PtK.und hk.is), ev]
  all_goals rfl
end
end Go.Sl
namespace Go.Proofs.YtggcpoleklcmkaaGreatDoor
open Go.Sl Go.Ls Go.Tr
end Go.Proofs.YtggcpoleklcmkaaGreatDoor

namespace Go.Tr
open Go.Sl Go.Ls
namespace Nd
end Nd
end Go.Tr

namespace Go.Proofs.YtggcpoleklcmkaaGreatDoor
open Go.Sl Go.Ls Go.Tr
end Go.Proofs.YtggcpoleklcmkaaGreatDoor

namespace Go.Tr
open Go.Sl Go.Ls
def Nd.Step1 (top top' : Nd) : Prop := top' = top ∨ (∃ p ix nd, top' = (Nd.add top p ix nd).1) ∨ (∃ i, top' = (Nd.remove top i).1) ∨ (∃ i p ix, top' = (Nd.move top i p ix).1) ∨ (∃ i p ix c, top' = (Nd.wrap top i p ix c).1) ∨ (∃ i, top' = (Nd.unwrap top i).1)
section
variable {A : Ar} {top : Nd}
end
end Go.Tr
namespace Go.Sl
section
variable {Γ : Cx} {ops : Array Oper} {Q : Post} {z : Nat} {I I0 : Mem} {L L0 : List HP} {ρ : Nat → Value} {fuel : Nat} {listed : Array Bool}
end
end Go.Sl
namespace Go.Proofs.YtggcpoleklcmkaaGreatDoor
open Go.Sl Go.Ls Go.Tr
end Go.Proofs.YtggcpoleklcmkaaGreatDoor

namespace Go.Tr
open Go.Sl Go.Ls
theorem Nd.find_top (n : Nd) : Nd.find n.id n = some n := by
 cases n with
 | mk j g ks => simp [Nd.find, Nd.id]
theorem Abs.find0 {A : Ar} {top : Nd} (h : Abs A top) : Nd.find 0 top = some top := by
 have := Nd.find_top top
 rw [h.id0] at this; exact this
inductive Nd.Rch : Nd → Prop where
 | start : Nd.Rch (.mk 0 true [])
 | step {A : Ar} {top top' : Nd} (h : Nd.Rch top) (hA : Abs A top) (hs : Nd.Step1 top top') : Nd.Rch top'
end Go.Tr
namespace Go.Proofs.YtggcpoleklcmkaaGreatDoor
open Go.Sl Go.Ls Go.Tr
end Go.Proofs.YtggcpoleklcmkaaGreatDoor
