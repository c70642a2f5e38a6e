/-
 Tree, the walks: the document's functions (4): fits, add.
-/
import Derived.Test.YtggcpoleklcmkaaGreatDoorX2
import Derived.Test.YtggcpoleklcmkaaGreatDoorX4
import Derived.Test.YtggcpoleklcmkaaGreatDoorX3
set_option linter.unusedVariables false
set_option linter.unusedSimpArgs false
set_option maxRecDepth 100000
set_option maxHeartbeats 8000000
namespace Go.Proofs.YtggcpoleklcmkaaGreatDoor
open Go.Sl Go.Ls Go.Tr
attribute [local irreducible] WC WL WX WK WA WAK Val Ctr RunRes ResIs Rd At sl box pt Exit.then Exit.inBlock bodyPost Code.wp wpList
theorem rFits (top nd : Nd) (tv kv : Value) (d : Int) (I : Mem) (hbt : top.size ≤ 1099511627776) (hb : nd.size ≤ 1099511627776) (hit : I64 top.id) (htv : LsAt Nd.Rp I top.kids tv) (hid : I64 nd.id) (hkv : LsAt Nd.Rp I nd.kids kv) (hd0 : -1000 ≤ d) (hd1 : d ≤ 1099511627776) :
  Ctr Tryz.prog 128 [.agg #[vi top.id, .bool top.grp, tv], .agg #[vi nd.id, .bool nd.grp, kv], vi d] I [] (Still I fun v => v = vi (Nd.fits top nd d)) := by
 have htv0 := htv
 have hkv0 := hkv
 obtain ⟨a1, c1, rfl⟩ := hkv.sl
 obtain ⟨a9, c9, rfl⟩ := htv.sl
 refine Ctr.intro Tryz.func128 rfl rfl rfl fun E F => ?_
 by_cases h36 : 65536 < (top.size : Int) - 1 + nd.size
 ·skip
  refine jS (WL.boxA rfl rfl (fun _ => ?_))
  refine jW ?_
  refine WL.boxA rfl rfl (fun _ => ?_)
  refine jW ?_
  refine jf rfl (jM (jB (jB (j8 999 [1, 1] rfl (jT 0 rfl (jt 0 rfl rfl rfl) (jT 3 rfl (jt 1 rfl rfl rfl) (j5 1 rfl (WL.callS rfl rfl (rSize _ top (Nat.le_refl _) _ _ hbt hit htv) rfl ?_))))))))
  rintro _ rfl
  refine jC (j7 [1, 1] rfl (jT 2 rfl (Val.sub rfl rfl (wrap_i64 (by omega) (by omega))) ?_))
  refine j5 4 rfl (WL.callS rfl rfl (rSize _ nd (Nat.le_refl _) _ _ hb hid hkv) rfl ?_)
  rintro _ rfl
  refine jC (j7 [1, 1] rfl (jT 5 rfl (Val.add rfl rfl (wrap_i64 (by omega) (by omega))) ?_))
  refine jT 6 rfl (Val.gtr rfl rfl (decide_eq_true (by omega))) ?_
  refine j6 (jA (jF (jS (jf rfl (jM (jR (jU ?_)))))))
  refine jP [] (jr1 rfl (jtI rfl)) ?_
  refine ⟨rfl, rfl, ?_⟩
  rw [Nd.fits, if_pos h36]
 ·skip
  refine jS (WL.boxA rfl rfl (fun _ => ?_))
  refine jW ?_
  refine WL.boxA rfl rfl (fun _ => ?_)
  refine jW ?_
  refine jf rfl (jM (jB (jB (j8 999 [1, 1] rfl (jT 0 rfl (jt 0 rfl rfl rfl) (jT 3 rfl (jt 1 rfl rfl rfl) (j5 1 rfl (WL.callS rfl rfl (rSize _ top (Nat.le_refl _) _ _ hbt hit htv) rfl ?_))))))))
  rintro _ rfl
  refine jC (j7 [1, 1] rfl (jT 2 rfl (Val.sub rfl rfl (wrap_i64 (by omega) (by omega))) ?_))
  refine j5 4 rfl (WL.callS rfl rfl (rSize _ nd (Nat.le_refl _) _ _ hb hid hkv) rfl ?_)
  rintro _ rfl
  refine jC (j7 [1, 1] rfl (jT 5 rfl (Val.add rfl rfl (wrap_i64 (by omega) (by omega))) ?_))
  refine jT 6 rfl (Val.gtr rfl rfl (decide_eq_false (by omega))) ?_
  refine j6 (jA (jE (jV (jK (jm (jt 1 rfl rfl rfl) (jm (jt 2 rfl rfl rfl) (ja rfl (WL.slNil 3 1 ?_))))))))
  refine jW ?_
  refine WL.callP [3] rfl rfl (rWrong top _ nd (Nat.le_refl _) _ _ [] none 0 d _ (by simpa using hb) hbt (by omega) (by omega) hid hkv hit htv) rfl ?_
  rintro v I2 _ hI2 (⟨he, a5, c5, rfl, rfl⟩ | ⟨he, rfl, rfl⟩)
  ·skip
   refine jW ?_
   refine je rfl (jm (jq rfl rfl) (jm (Val.extractS rfl rfl) (jf rfl (jh rfl (jN (ja rfl (jf rfl (jM (jR (WX.lessI hI2 ?_))))))))))
   refine jP [] (jr1 rfl (jtI rfl)) ?_
   refine ⟨rfl, rfl, ?_⟩
   rw [Nd.fits, if_neg h36, he]
  ·skip
   refine jW ?_
   refine je rfl (jm (jq rfl rfl) (jm (Val.extractS rfl rfl) (jf rfl (jh rfl (jN (ja rfl (jf rfl (jM (jR (WX.lessI hI2 ?_))))))))))
   refine jP [] (jr1 rfl (jtI rfl)) ?_
   refine ⟨rfl, rfl, ?_⟩
   rw [Nd.fits, if_neg h36]
end Go.Proofs.YtggcpoleklcmkaaGreatDoor

namespace Go.Tr
open Go.Sl Go.Ls
namespace Nd
theorem find_size (i : Int) : ∀ (n m : Nd), find i n = some m → m.size ≤ n.size := by
 intro n
 refine Nd.rec (motive_1 := fun n => ∀ m, find i n = some m → m.size ≤ n.size) (motive_2 := fun l => ∀ m, finds i l = some m → m.size ≤ sizes l) ?_ ?_ ?_ n
 ·intro j g ks ih m h
  simp only [find] at h
  split at h
  ·injection h with h; rw [← h]; exact Nat.le_refl _
  ·have := ih m h
   simp only [size]; omega
 ·intro m h; simp [finds] at h
 ·intro k ks h1 h2 m h
  simp only [finds, sizes] at h ⊢
  cases hk : find i k with
  | some x => rw [hk] at h; injection h with h; subst h; have := h1 _ hk; omega
  | none => rw [hk] at h; have := h2 _ h; omega
theorem rp_mono {I I' : Mem} {n : Nd} {cs : List Value} (h : Rp I n cs) (hI : I.le I') : Rp I' n cs := RepMono.mono h hI
def add (top : Nd) (parent index : Int) (n : Nd) : Nd × Int :=
 match find parent top with
 | none => (top, 31)
 | some p => if p.grp = false then (top, 33) else if index < 0 ∨ (p.kids.length : Int) < index then (top, 30)
  else if fits top n (depth parent top + 1) ≠ 0 then (top, fits top n (depth parent top + 1))
  else (with_ parent (p.kids.take index.toNat ++ (n :: p.kids.drop index.toNat)) top, 0)
end Nd
end Go.Tr
namespace Go.Proofs.YtggcpoleklcmkaaGreatDoor
open Go.Sl Go.Ls Go.Tr
attribute [local irreducible] WC WL WX WK WA WAK Val Ctr RunRes ResIs Rd At sl box pt Exit.then Exit.inBlock bodyPost Code.wp wpList
def RetE (r : Nd × Int) : Value → Mem → List HP → Prop := fun v I' L' => L' = [] ∧ ∃ kv, v = .tuple #[.agg #[vi r.1.id, .bool r.1.grp, kv], vi r.2] ∧ LsAt Nd.Rp I' r.1.kids kv
theorem rAdd (top nd : Nd) (tv kv : Value) (parent index : Int) (I : Mem) (hbt : top.size ≤ 1000000000) (hb : nd.size ≤ 1000000000) (hit : I64 top.id) (htv : LsAt Nd.Rp I top.kids tv) (hid : I64 nd.id) (hkv : LsAt Nd.Rp I nd.kids kv) :
  Ctr Tryz.prog 102 [.agg #[vi top.id, .bool top.grp, tv], vi parent, vi index, .agg #[vi nd.id, .bool nd.grp, kv]] I [] (RetE (Nd.add top parent index nd)) := by
 replace hbt : top.size ≤ 1099511627776 ∧ top.size ≤ 1000000000 := ⟨by omega, hbt⟩
 obtain ⟨hbt, hbt1⟩ := hbt
 have htv0 := htv
 have hkv0 := hkv
 obtain ⟨a1, c1, rfl⟩ := hkv.sl
 obtain ⟨a9, c9, rfl⟩ := htv.sl
 have hnd : Nd.Rp I nd [vi nd.id, .bool nd.grp, .slice a1 nd.kids.length c1] := Nd.rep_iff.2 ⟨hid, _, rfl, hkv⟩
 have hdp := Nd.depth_le parent top
 refine Ctr.intro Tryz.func102 rfl rfl rfl fun E F => ?_
 refine jS (WL.boxA rfl rfl (fun _ => ?_))
 refine jW ?_
 refine WL.boxA rfl rfl (fun _ => ?_)
 refine jW ?_
 refine WL.alloc rfl (fun _ => ?_)
 refine jW ?_
 refine jf rfl (jN (jm (jt 1 rfl rfl rfl) (ja rfl (WL.callS rfl rfl (rFind parent _ top (Nat.le_refl _) _ _ hbt hit htv) rfl ?_))))
 rintro _ (⟨p, pv, hp, rfl, hip, hpk⟩ | ⟨hp, rfl⟩)
 case inr =>
  refine je rfl (jm (Val.extractA rfl rfl) (jm (Val.extractB rfl rfl) (WL.alloc rfl (fun _ => ?_))))
  refine jW ?_
  refine WL.stA 4 rfl rfl rfl rfl ?_
  refine jg rfl (jM (jB (jS (jb rfl (jl rfl (jM (jF (jS (jm (jt 1 rfl rfl rfl) (WL.stA 3 rfl rfl rfl rfl ?_))))))))))
  refine jf rfl (jM (jR (jU ?_)))
  refine jP [] (jr2 rfl (jcL 3 rfl rfl rfl) (jtI rfl)) ?_
  have hadd : Nd.add top parent index nd = (top, 31) := by rw [Nd.add, hp]
  rw [hadd]
  exact ⟨rfl, _, rfl, htv⟩
 have hpk0 := hpk
 have hpl := hpk.le
 obtain ⟨a3, c3, rfl⟩ := hpk.sl
 have hps := Nd.find_size parent top p hp
 have hpz := sizes_lt p
 have hpn := Nd.len_le_sizes p.kids
 cases hg : p.grp
 ·skip
  refine je rfl (jm (Val.extractA rfl rfl) (jm (Val.extractB rfl rfl) (WL.alloc rfl (fun _ => ?_))))
  refine jW ?_
  refine WL.stA 4 rfl rfl rfl rfl ?_
  refine jg rfl (jM (jB (jS (jb rfl (jl rfl (jM (jE (jV (jA (jB (jS (jm (jn rfl) (jm (jp 4 rfl rfl rfl) (jl rfl (jM (jF (jS (jm (jt 1 rfl rfl rfl) (WL.stA 3 rfl rfl rfl rfl ?_)))))))))))))))))))
  refine jf rfl (jM (jR (jU ?_)))
  refine jP [] (jr2 rfl (jcL 3 rfl rfl rfl) (jtI rfl)) ?_
  have hadd : Nd.add top parent index nd = (top, 33) := by rw [Nd.add, hp]; simp only [hg, if_true]
  rw [hadd]
  exact ⟨rfl, _, rfl, htv⟩
 by_cases hx : index < 0 ∨ (p.kids.length : Int) < index
 ·have hadd : Nd.add top parent index nd = (top, 30) := by rw [Nd.add, hp]; simp only [hg, Bool.true_eq_false, if_false, if_pos hx]
  rw [hadd]
  by_cases hx0 : index < 0
  ·skip
   refine je rfl (jm (Val.extractA rfl rfl) (jm (Val.extractB rfl rfl) (WL.alloc rfl (fun _ => ?_))))
   refine jW ?_
   refine WL.stA 4 rfl rfl rfl rfl ?_
   refine jg rfl (jM (jB (jS (jb rfl (jl rfl (jM (jE (jV (jA (jB (jS (jm (jn rfl) (jm (jp 4 rfl rfl rfl) (jl rfl (jM (jE (jV (jA (jB (jS (ja rfl (jy rfl rfl (jb rfl (jH (jH (jH (jH (jH (jk rfl (jM (jF (jS (jm (jt 1 rfl rfl rfl) (WL.stA 3 rfl rfl rfl rfl ?_))))))))))))))))))))))))))))))))))
   refine jf rfl (jM (jR (jU ?_)))
   exact jP [] (jr2 rfl (jcL 3 rfl rfl rfl) (jtI rfl)) ⟨rfl, _, rfl, htv⟩
  ·skip
   refine je rfl (jm (Val.extractA rfl rfl) (jm (Val.extractB rfl rfl) (WL.alloc rfl (fun _ => ?_))))
   refine jW ?_
   refine WL.stA 4 rfl rfl rfl rfl ?_
   refine jg rfl (jM (jB (jS (jb rfl (jl rfl (jM (jE (jV (jA (jB (jS (jm (jn rfl) (jm (jp 4 rfl rfl rfl) (jl rfl (jM (jE (jV (jA (jB (jS (ja rfl (jx rfl rfl (jb rfl (jG (ja rfl (jG (jm (jn rfl) (jG (jm (jp 4 rfl rfl rfl) (jG (jm (jo rfl) (jG (jO rfl rfl (jk rfl (jM (jF (jS (jm (jt 1 rfl rfl rfl) (WL.stA 3 rfl rfl rfl rfl ?_)))))))))))))))))))))))))))))))))))))))
   refine jf rfl (jM (jR (jU ?_)))
   exact jP [] (jr2 rfl (jcL 3 rfl rfl rfl) (jtI rfl)) ⟨rfl, _, rfl, htv⟩
 obtain ⟨ix, rfl⟩ : ∃ k : Nat, index = k := ⟨index.toNat, by omega⟩
 have hix : ix ≤ p.kids.length := by omega
 refine je rfl (jm (Val.extractA rfl rfl) (jm (Val.extractB rfl rfl) (WL.alloc rfl (fun _ => ?_))))
 refine jW ?_
 refine WL.stA 4 rfl rfl rfl rfl ?_
 refine jg rfl (jM (jB (jS (jb rfl (jl rfl (jM (jE (jV (jA (jB (jS (jm (jn rfl) (jm (jp 4 rfl rfl rfl) (jl rfl (jM (jE (jV (jA (jB (jS (ja rfl (jx rfl rfl (jb rfl (jG (ja rfl (jG (jm (jn rfl) (jG (jm (jp 4 rfl rfl rfl) (jG (jm (jo rfl) (jG (jL rfl rfl (jk rfl (jM (jE (jV (jA (jB ?_)))))))))))))))))))))))))))))))))))))))
 refine jB (j8 999 [1, 1] rfl (jT 0 rfl (jt 0 rfl rfl rfl) (jT 1 rfl (jt 1 rfl rfl rfl) (jT 2 rfl (jt 0 rfl rfl rfl) (jT 3 rfl (Val.moveI rfl) (j5 4 rfl (WL.callS rfl rfl (rDepth parent _ top (Nat.le_refl _) _ _ hbt hit htv) rfl ?_)))))))
 rintro _ rfl
 refine jC (j7 [1, 1] rfl (jT 5 rfl (Val.add rfl rfl (wrap_i64 (by omega) (by omega))) ?_))
 refine j5 6 rfl (WL.callS rfl rfl (rFits top nd _ _ _ _ hbt (by omega) hit htv hid hkv (by omega) (by omega)) rfl ?_)
 rintro _ rfl
 refine jC (j7 [1, 1] rfl (jT 7 rfl (Val.assignI rfl) (j6 ?_)))
 by_cases hf : Nd.fits top nd (Nd.depth parent top + 1) = 0
 case neg =>
  refine jK (ja rfl (jJ rfl rfl (jM (jF (jS (jm (jt 1 rfl rfl rfl) (ja rfl (WL.stA 3 rfl rfl rfl rfl ?_))))))))
  refine jf rfl (jM (jR (jU ?_)))
  refine jP [] (jr2 rfl (jcL 3 rfl rfl rfl) (jtI rfl)) ?_
  have hadd : Nd.add top parent ix nd = (top, Nd.fits top nd (Nd.depth parent top + 1)) := by rw [Nd.add, hp]; simp only [hg, Bool.true_eq_false, if_false, if_neg hx, ne_eq, hf, not_false_eq_true, if_true]
  rw [hadd]
  exact ⟨rfl, _, rfl, htv⟩
 rw [hf]
 have hjl : [(p.kids.drop 0).take (ix - 0), [nd], (p.kids.drop ix).take (p.kids.length - ix)].flatten = p.kids.take ix ++ (nd :: p.kids.drop ix) := by
  simp only [List.flatten_cons, List.flatten_nil, List.append_nil, List.drop_zero, Nat.sub_zero, List.singleton_append]
  rw [List.take_of_length_le (l := p.kids.drop ix) (by rw [List.length_drop]; omega)]
 have hadd : Nd.add top parent (ix : Int) nd = (Nd.with_ parent (p.kids.take ix ++ (nd :: p.kids.drop ix)) top, 0) := by
  rw [Nd.add, hp]
  simp only [hg, Bool.true_eq_false, if_false, if_neg hx, hf, ne_eq, not_true_eq_false, Int.toNat_natCast]
 have hln : (p.kids.take ix ++ (nd :: p.kids.drop ix)).length = p.kids.length + 1 := by
  rw [List.length_append, List.length_cons, List.length_take, List.length_drop]; omega
 refine jK (ja rfl (jz rfl rfl (jM (jE (jV (jA (jB (j8 999 [1, 1, 2] rfl (jT 0 rfl (jt 0 rfl rfl rfl) (jT 1 rfl (Val.moveI rfl) (jT 2 rfl (jn rfl) (jT 3 rfl (jp 2 rfl rfl rfl) (jT 4 rfl (Val.moveI rfl) (jT 6 rfl (jt 1 rfl rfl rfl) (jT 8 rfl (jn rfl) (jT 9 rfl (jp 2 rfl rfl rfl) (jT 10 rfl (Val.moveI rfl) (jT 11 rfl (jn rfl) (jT 12 rfl (jp 2 rfl rfl rfl) (jT 13 rfl (jo rfl) ?_))))))))))))))))))))
 refine jee 5 7 rfl rfl ?_ ?_
 ·skip
  refine WL.callP [] rfl rfl (rPart p.kids _ 0 ix _ (hpk.mono (Mem.le.refl _)) (by omega) (by omega) (by omega)) rfl ?_
  rintro v1 I1 _ hI1 ⟨rfl, ha⟩
  have ha0 := ha
  obtain ⟨aa, ca, rfl⟩ := ha.sl
  refine jW ?_
  have hJ1 := ((Mem.le.refl _)).trans hI1
  refine jC (j9 [1, 1, 2] ((hJ1)) rfl ?_)
  refine jee 7 14 rfl rfl ?_ ?_
  ·skip
   refine WL.buildSlice (by with_unfolding_all exact rfl) rfl (by with_unfolding_all exact rfl) rfl (fun _ => ?_)
   rename_i gl
   refine jW ?_
   refine WL.lit (R := Nd.Rp) (sz := 3) (l := [nd]) (css := [[vi nd.id, .bool nd.grp, .slice a1 nd.kids.length c1]]) 5 rfl ⟨Nd.rp_mono hnd (hJ1), trivial⟩ rfl (show 1 ≤ maxLen by decide) fun I2 hI2 hb => ?_
   replace ha := ha.mono hI2
   have hJ2 := (hJ1).trans hI2
   refine jC (j9 [1, 1, 2] ((hJ2)) rfl (j5 14 rfl (WL.callP [] rfl rfl (rPart p.kids _ ix p.kids.length _ (hpk.mono hJ2) (by omega) (by omega) (by omega)) rfl ?_)))
   rintro v3 I3 _ hI3 ⟨rfl, hc⟩
   have hc0 := hc
   obtain ⟨ac, cc, rfl⟩ := hc.sl
   refine jW ?_
   replace ha := ha.mono hI3
   replace hb := hb.mono hI3
   have hJ3 := (hJ2).trans hI3
   refine jC (j9 [1, 1, 2] ((hJ3)) rfl (j5 15 rfl (WL.buildSlice (by with_unfolding_all exact rfl) rfl (by with_unfolding_all exact rfl) rfl (fun _ => ?_))))
   rename_i gb
   refine jW ?_
   refine WL.lit (R := Rl) (sz := 1) (l := [(p.kids.drop 0).take (ix - 0), [nd], (p.kids.drop ix).take (p.kids.length - ix)]) (css := [[_], [_], [_]]) 5 rfl ⟨⟨_, rfl, ha⟩, ⟨_, rfl, hb⟩, ⟨_, rfl, hc⟩, trivial⟩ rfl (show 3 ≤ maxLen by decide) fun I4 hI4 hl => ?_
   have hJ4 := (hJ3).trans hI4
   refine jC (j9 [1, 1, 2] ((hJ4)) rfl (j5 16 rfl (WL.callP [] rfl rfl (rJoin _ _ _ hl (by rw [hjl]; omega)) rfl ?_)))
   rintro v I5 _ hI5 ⟨rfl, hw⟩
   have hJ5 := (hJ4).trans hI5
   rw [hjl] at hw
   have hw0 := hw
   obtain ⟨aw, cw, rfl⟩ := hw.sl
   refine jW ?_
   refine jC (j9 [1, 1, 2] ((hJ5)) rfl (j5 17 rfl (WL.callP [] rfl rfl (rWith parent _ _ top (Nat.le_refl _) _ _ _ hbt hit (htv.mono hJ5) hw) rfl ?_)))
   rintro v I6 _ hI6 ⟨rfl, kw, rfl, hr⟩
   have hJ6 := (hJ5).trans hI6
   have hr0 := hr
   obtain ⟨ar, cr, rfl⟩ := hr.sl
   refine jW ?_
   refine jC (j9 [1, 1, 2] ((hJ6)) rfl (j5 18 rfl (WL.stA 3 rfl rfl rfl rfl ?_)))
   refine jC (j9 [1, 1, 2] ((hJ6)) rfl (jT 19 rfl (Val.assignI rfl) (j6 (jA (jR ?_)))))
   refine jP [] (jr2 rfl (jcL 3 rfl rfl rfl) (jtI rfl)) ?_
   rw [hadd]
   exact ⟨rfl, _, rfl, hr⟩
  ·skip
   refine WL.callP [] rfl rfl (rPart p.kids _ ix p.kids.length _ (hpk.mono hJ1) (by omega) (by omega) (by omega)) rfl ?_
   rintro v2 I2 _ hI2 ⟨rfl, hc⟩
   have hc0 := hc
   obtain ⟨ac, cc, rfl⟩ := hc.sl
   refine jW ?_
   replace ha := ha.mono hI2
   have hJ2 := (hJ1).trans hI2
   refine jC (j9 [1, 1, 2] ((hJ2)) rfl (j5 7 rfl (WL.buildSlice (by with_unfolding_all exact rfl) rfl (by with_unfolding_all exact rfl) rfl (fun _ => ?_))))
   rename_i gl
   refine jW ?_
   refine WL.lit (R := Nd.Rp) (sz := 3) (l := [nd]) (css := [[vi nd.id, .bool nd.grp, .slice a1 nd.kids.length c1]]) 5 rfl ⟨Nd.rp_mono hnd (hJ2), trivial⟩ rfl (show 1 ≤ maxLen by decide) fun I3 hI3 hb => ?_
   replace ha := ha.mono hI3
   replace hc := hc.mono hI3
   have hJ3 := (hJ2).trans hI3
   refine jC (j9 [1, 1, 2] ((hJ3)) rfl (j5 15 rfl (WL.buildSlice (by with_unfolding_all exact rfl) rfl (by with_unfolding_all exact rfl) rfl (fun _ => ?_))))
   rename_i gb
   refine jW ?_
   refine WL.lit (R := Rl) (sz := 1) (l := [(p.kids.drop 0).take (ix - 0), [nd], (p.kids.drop ix).take (p.kids.length - ix)]) (css := [[_], [_], [_]]) 5 rfl ⟨⟨_, rfl, ha⟩, ⟨_, rfl, hb⟩, ⟨_, rfl, hc⟩, trivial⟩ rfl (show 3 ≤ maxLen by decide) fun I4 hI4 hl => ?_
   have hJ4 := (hJ3).trans hI4
   refine jC (j9 [1, 1, 2] ((hJ4)) rfl (j5 16 rfl (WL.callP [] rfl rfl (rJoin _ _ _ hl (by rw [hjl]; omega)) rfl ?_)))
   rintro v I5 _ hI5 ⟨rfl, hw⟩
   have hJ5 := (hJ4).trans hI5
   rw [hjl] at hw
   have hw0 := hw
   obtain ⟨aw, cw, rfl⟩ := hw.sl
   refine jW ?_
   refine jC (j9 [1, 1, 2] ((hJ5)) rfl (j5 17 rfl (WL.callP [] rfl rfl (rWith parent _ _ top (Nat.le_refl _) _ _ _ hbt hit (htv.mono hJ5) hw) rfl ?_)))
   rintro v I6 _ hI6 ⟨rfl, kw, rfl, hr⟩
   have hJ6 := (hJ5).trans hI6
   have hr0 := hr
   obtain ⟨ar, cr, rfl⟩ := hr.sl
   refine jW ?_
   refine jC (j9 [1, 1, 2] ((hJ6)) rfl (j5 18 rfl (WL.stA 3 rfl rfl rfl rfl ?_)))
   refine jC (j9 [1, 1, 2] ((hJ6)) rfl (jT 19 rfl (Val.assignI rfl) (j6 (jA (jR ?_)))))
   refine jP [] (jr2 rfl (jcL 3 rfl rfl rfl) (jtI rfl)) ?_
   rw [hadd]
   exact ⟨rfl, _, rfl, hr⟩
 ·skip
  refine WL.buildSlice (by with_unfolding_all exact rfl) rfl (by with_unfolding_all exact rfl) rfl (fun _ => ?_)
  rename_i gl
  refine jW ?_
  refine WL.lit (R := Nd.Rp) (sz := 3) (l := [nd]) (css := [[vi nd.id, .bool nd.grp, .slice a1 nd.kids.length c1]]) 5 rfl ⟨Nd.rp_mono hnd ((Mem.le.refl _)), trivial⟩ rfl (show 1 ≤ maxLen by decide) fun I1 hI1 hb => ?_
  have hJ1 := ((Mem.le.refl _)).trans hI1
  refine jC (j9 [1, 1, 2] ((hJ1)) rfl (j5 5 rfl (WL.callP [] rfl rfl (rPart p.kids _ 0 ix _ (hpk.mono hJ1) (by omega) (by omega) (by omega)) rfl ?_)))
  rintro v2 I2 _ hI2 ⟨rfl, ha⟩
  have ha0 := ha
  obtain ⟨aa, ca, rfl⟩ := ha.sl
  refine jW ?_
  replace hb := hb.mono hI2
  have hJ2 := (hJ1).trans hI2
  refine jC (j9 [1, 1, 2] ((hJ2)) rfl (j5 14 rfl (WL.callP [] rfl rfl (rPart p.kids _ ix p.kids.length _ (hpk.mono hJ2) (by omega) (by omega) (by omega)) rfl ?_)))
  rintro v3 I3 _ hI3 ⟨rfl, hc⟩
  have hc0 := hc
  obtain ⟨ac, cc, rfl⟩ := hc.sl
  refine jW ?_
  replace ha := ha.mono hI3
  replace hb := hb.mono hI3
  have hJ3 := (hJ2).trans hI3
  refine jC (j9 [1, 1, 2] ((hJ3)) rfl (j5 15 rfl (WL.buildSlice (by with_unfolding_all exact rfl) rfl (by with_unfolding_all exact rfl) rfl (fun _ => ?_))))
  rename_i gb
  refine jW ?_
  refine WL.lit (R := Rl) (sz := 1) (l := [(p.kids.drop 0).take (ix - 0), [nd], (p.kids.drop ix).take (p.kids.length - ix)]) (css := [[_], [_], [_]]) 5 rfl ⟨⟨_, rfl, ha⟩, ⟨_, rfl, hb⟩, ⟨_, rfl, hc⟩, trivial⟩ rfl (show 3 ≤ maxLen by decide) fun I4 hI4 hl => ?_
  have hJ4 := (hJ3).trans hI4
  refine jC (j9 [1, 1, 2] ((hJ4)) rfl (j5 16 rfl (WL.callP [] rfl rfl (rJoin _ _ _ hl (by rw [hjl]; omega)) rfl ?_)))
  rintro v I5 _ hI5 ⟨rfl, hw⟩
  have hJ5 := (hJ4).trans hI5
  rw [hjl] at hw
  have hw0 := hw
  obtain ⟨aw, cw, rfl⟩ := hw.sl
  refine jW ?_
  refine jC (j9 [1, 1, 2] ((hJ5)) rfl (j5 17 rfl (WL.callP [] rfl rfl (rWith parent _ _ top (Nat.le_refl _) _ _ _ hbt hit (htv.mono hJ5) hw) rfl ?_)))
  rintro v I6 _ hI6 ⟨rfl, kw, rfl, hr⟩
  have hJ6 := (hJ5).trans hI6
  have hr0 := hr
  obtain ⟨ar, cr, rfl⟩ := hr.sl
  refine jW ?_
  refine jC (j9 [1, 1, 2] ((hJ6)) rfl (j5 18 rfl (WL.stA 3 rfl rfl rfl rfl ?_)))
  refine jC (j9 [1, 1, 2] ((hJ6)) rfl (jT 19 rfl (Val.assignI rfl) (j6 (jA (jR ?_)))))
  refine jP [] (jr2 rfl (jcL 3 rfl rfl rfl) (jtI rfl)) ?_
  rw [hadd]
  exact ⟨rfl, _, rfl, hr⟩
end Go.Proofs.YtggcpoleklcmkaaGreatDoor

namespace Go.Tr
open Go.Sl Go.Ls
namespace Nd
def zero : Nd := .mk 0 false []
def remove (top : Nd) (i : Int) : Nd × Nd × Int × Int × Int :=
 if i = 0 then (top, zero, 0, 0, 30) else match find i top with
 | none => (top, zero, 0, 0, 31)
 | some n => match whr i top with
  | none => (top, zero, 0, 0, 0)
  | some (q, k) => match find q top with
   | none => (top, zero, 0, 0, 0)
   | some p => (with_ q (p.kids.take k.toNat ++ p.kids.drop (k.toNat + 1)) top, n, q, k, 0)
def Has (top : Nd) (i : Int) : Prop := i ≠ 0 → ∀ n, find i top = some n → ∃ q, ∃ k : Nat, ∃ m, whr i top = some (q, (k : Int)) ∧ find q top = some m ∧ k < m.kids.length
end Nd
end Go.Tr
namespace Go.Proofs.YtggcpoleklcmkaaGreatDoor
open Go.Sl Go.Ls Go.Tr
attribute [local irreducible] WC WL WX WK WA WAK Val Ctr RunRes ResIs Rd At sl box pt Exit.then Exit.inBlock bodyPost Code.wp wpList
theorem i64_0 : I64 0 := ⟨by decide, by decide⟩
def RetR (r : Nd × Nd × Int × Int × Int) : Value → Mem → List HP → Prop := fun v I' L' => L' = [] ∧ ∃ kv kw, v = .tuple #[.agg #[vi r.1.id, .bool r.1.grp, kv], .agg #[vi r.2.1.id, .bool r.2.1.grp, kw], vi r.2.2.1, vi r.2.2.2.1, vi r.2.2.2.2] ∧ LsAt Nd.Rp I' r.1.kids kv ∧ LsAt Nd.Rp I' r.2.1.kids kw ∧ I64 r.2.1.id
theorem rRemove (top : Nd) (tv : Value) (i : Int) (I : Mem) (hbt : top.size ≤ 1000000000) (hit : I64 top.id) (htv : LsAt Nd.Rp I top.kids tv) (hhas : Nd.Has top i) :
  Ctr Tryz.prog 103 [.agg #[vi top.id, .bool top.grp, tv], vi i] I [] (RetR (Nd.remove top i)) := by
 replace hbt : top.size ≤ 1099511627776 ∧ top.size ≤ 1000000000 := ⟨by omega, hbt⟩
 obtain ⟨hbt, hbt1⟩ := hbt
 have htv0 := htv
 obtain ⟨a9, c9, rfl⟩ := htv.sl
 refine Ctr.intro Tryz.func103 rfl rfl rfl fun E F => ?_
 by_cases h0 : i = 0
 ·skip
  refine jS (WL.boxA rfl rfl (fun _ => ?_))
  refine jW ?_
  refine WL.alloc rfl (fun _ => ?_)
  refine jW ?_
  refine WL.alloc rfl (fun _ => ?_)
  refine jW ?_
  refine jf rfl (jf rfl (jf rfl (jM (jB (jS (ja rfl (jw rfl rfl (jM (jF (jS (jm (jt 1 rfl rfl rfl) (jm (Val.build0) ?_))))))))))))
  refine WL.stA 2 rfl rfl rfl rfl ?_
  refine WL.stA 3 rfl rfl rfl rfl ?_
  refine jf rfl (jf rfl (jf rfl (jM (jR (jU ?_)))))
  refine jP [] (RunRes.r5 rfl (jcL 2 rfl rfl rfl) (jcL 3 rfl rfl rfl) (jtI rfl) (jtI rfl) (jtI rfl)) ?_
  have hrem : Nd.remove top i = (top, Nd.zero, 0, 0, 30) := by rw [Nd.remove, if_pos h0]
  rw [hrem]
  exact ⟨rfl, _, _, rfl, htv, LsAt.nil _ _, i64_0⟩
 refine jS (WL.boxA rfl rfl (fun _ => ?_))
 refine jW ?_
 refine WL.alloc rfl (fun _ => ?_)
 refine jW ?_
 refine WL.alloc rfl (fun _ => ?_)
 refine jW ?_
 refine jf rfl (jf rfl (jf rfl (jM (jB (jS (ja rfl (jv rfl rfl (jM (jE (jV (jK (jm (jt 1 rfl rfl rfl) (ja rfl (WL.callS rfl rfl (rFind i _ top (Nat.le_refl _) _ _ hbt hit htv) rfl ?_))))))))))))))
 rintro _ (⟨n, nv, hn, rfl, hin, hnk⟩ | ⟨hn, rfl⟩)
 case inr =>
  refine je rfl (jm (Val.extractA rfl rfl) (jm (Val.extractB rfl rfl) (WL.alloc rfl (fun _ => ?_))))
  refine jW ?_
  refine WL.stA 4 rfl rfl rfl rfl ?_
  refine jg rfl (jM (jB (jS (jb rfl (jl rfl (jM (jF (jS (jm (jt 1 rfl rfl rfl) (jm (Val.build0) ?_))))))))))
  refine WL.stA 2 rfl rfl rfl rfl ?_
  refine WL.stA 3 rfl rfl rfl rfl ?_
  refine jf rfl (jf rfl (jf rfl (jM (jR (jU ?_)))))
  refine jP [] (RunRes.r5 rfl (jcL 2 rfl rfl rfl) (jcL 3 rfl rfl rfl) (jtI rfl) (jtI rfl) (jtI rfl)) ?_
  have hrem : Nd.remove top i = (top, Nd.zero, 0, 0, 31) := by rw [Nd.remove, if_neg h0, hn]
  rw [hrem]
  exact ⟨rfl, _, _, rfl, htv, LsAt.nil _ _, i64_0⟩
 have hnk0 := hnk
 obtain ⟨a4, c4, rfl⟩ := hnk.sl
 obtain ⟨q, k, p, hwh, hfp, hkp⟩ := hhas h0 n hn
 refine je rfl (jm (Val.extractA rfl rfl) (jm (Val.extractB rfl rfl) (WL.alloc rfl (fun _ => ?_))))
 refine jW ?_
 refine WL.stA 4 rfl rfl rfl rfl ?_
 refine jg rfl (jM (jB (jS (jb rfl (jl rfl (jM (jE (jV (jK (jm (jt 1 rfl rfl rfl) (ja rfl (WL.callS rfl rfl (rWhere i _ top (Nat.le_refl _) _ _ hbt hit htv) rfl ?_))))))))))))
 rintro _ (⟨q', k', he, rfl⟩ | ⟨he, rfl⟩)
 case inr => rw [hwh] at he; cases he
 rw [hwh] at he
 injection he with he
 injection he with he1 he2
 subst he1 he2
 refine je rfl (jm (jq rfl rfl) (jm (jq rfl rfl) (jm (Val.extractB rfl rfl) (jf rfl (jf rfl (jg rfl (jN (jm (jt 1 rfl rfl rfl) (ja rfl (WL.callS rfl rfl (rFind q _ top (Nat.le_refl _) _ _ hbt hit htv) rfl ?_))))))))))
 rintro _ (⟨p', pv, hp, rfl, hip, hpk⟩ | ⟨hp, rfl⟩)
 case inr => rw [hfp] at hp; cases hp
 rw [hfp] at hp
 injection hp with hp
 subst hp
 have hpk0 := hpk
 have hpl := hpk.le
 obtain ⟨a3, c3, rfl⟩ := hpk.sl
 have hps := Nd.find_size q top p hfp
 have hpz := sizes_lt p
 have hpn := Nd.len_le_sizes p.kids
 have hjl : [(p.kids.drop 0).take (k - 0), (p.kids.drop (k + 1)).take (p.kids.length - (k + 1))].flatten = p.kids.take k ++ p.kids.drop (k + 1) := by
  simp only [List.flatten_cons, List.flatten_nil, List.append_nil, List.drop_zero, Nat.sub_zero]
  rw [List.take_of_length_le (l := p.kids.drop (k + 1)) (by rw [List.length_drop]; omega)]
 have hrem : Nd.remove top i = (Nd.with_ q (p.kids.take k ++ p.kids.drop (k + 1)) top, n, q, (k : Int), 0) := by
  rw [Nd.remove, if_neg h0, hn]
  simp only [hwh, hfp, Int.toNat_natCast]
 have hln : (p.kids.take k ++ p.kids.drop (k + 1)).length = p.kids.length - 1 := by
  rw [List.length_append, List.length_take, List.length_drop]; omega
 refine je rfl (jm (Val.extractA rfl rfl) (jm (Val.extractB rfl rfl) (WL.alloc rfl (fun _ => ?_))))
 refine jW ?_
 refine WL.stA 5 rfl rfl rfl rfl ?_
 refine jg rfl (jM (jB (j8 999 [1, 3, 3] rfl (jT 0 rfl (jt 0 rfl rfl rfl) (jT 1 rfl (Val.moveI rfl) (jT 2 rfl (jn rfl) (jT 3 rfl (jp 2 rfl rfl rfl) (jT 4 rfl (Val.moveI rfl) (jT 6 rfl (jn rfl) (jT 7 rfl (jp 2 rfl rfl rfl) (jT 8 rfl (Val.moveI rfl) (jT 9 rfl (Val.add rfl rfl (wrap_i64 (by omega) (by omega))) ?_))))))))))))
 refine jT 10 rfl (jn rfl) (jT 11 rfl (jp 2 rfl rfl rfl) (jT 12 rfl (jo rfl) (jT 17 rfl (jt 1 rfl rfl rfl) (jT 18 rfl (Val.moveI rfl) (jT 19 rfl (Val.moveI rfl) (j5 5 rfl (WL.callP [] rfl rfl (rPart p.kids _ 0 k _ hpk (by omega) (by omega) (by omega)) rfl ?_)))))))
 rintro v1 I1 _ hI1 ⟨rfl, ha⟩
 have ha0 := ha
 obtain ⟨aa, ca, rfl⟩ := ha.sl
 refine jW ?_
 refine jC (j9 [1, 3, 3] (hI1) rfl (j5 13 rfl (WL.callP [] rfl rfl (rPart p.kids _ (k + 1) p.kids.length _ (hpk.mono hI1) (by omega) (by omega) (by omega)) rfl ?_)))
 rintro v2 I2 _ hI2 ⟨rfl, hc⟩
 have hc0 := hc
 obtain ⟨ac, cc, rfl⟩ := hc.sl
 refine jW ?_
 have hJ2 := hI1.trans hI2
 refine jC (j9 [1, 3, 3] (hJ2) rfl ?_)
 replace ha := ha.mono hI2
 refine j5 14 rfl (WL.buildSlice (by with_unfolding_all exact rfl) rfl (by with_unfolding_all exact rfl) rfl (fun _ => ?_))
 rename_i gb
 refine jW ?_
 refine WL.lit (R := Rl) (sz := 1) (l := [(p.kids.drop 0).take (k - 0), (p.kids.drop (k + 1)).take (p.kids.length - (k + 1))]) (css := [[_], [_]]) 6 rfl ⟨⟨_, rfl, ha⟩, ⟨_, rfl, hc⟩, trivial⟩ rfl (show 2 ≤ maxLen by decide) fun I3 hI3 hl => ?_
 have hJ3 := hJ2.trans hI3
 refine jC (j9 [1, 3, 3] (hJ3) rfl (j5 15 rfl (WL.callP [] rfl rfl (rJoin _ _ _ hl (by rw [hjl]; omega)) rfl ?_)))
 rintro v4 I4 _ hI4 ⟨rfl, hw⟩
 have hJ4 := hJ3.trans hI4
 rw [hjl] at hw
 have hw0 := hw
 obtain ⟨aw, cw, rfl⟩ := hw.sl
 refine jW ?_
 refine jC (j9 [1, 3, 3] (hJ4) rfl (j5 16 rfl (WL.callP [] rfl rfl (rWith q _ _ top (Nat.le_refl _) _ _ _ hbt hit (htv.mono hJ4) hw) rfl ?_)))
 rintro v5 I5 _ hI5 ⟨rfl, kw, rfl, hr⟩
 have hJ5 := hJ4.trans hI5
 have hr0 := hr
 obtain ⟨ar, cr, rfl⟩ := hr.sl
 refine jW ?_
 refine jC (j9 [1, 3, 3] (hJ5) rfl (j5 20 rfl (WL.stA 2 rfl rfl rfl rfl ?_)))
 refine jC (j9 [1, 3, 3] (hJ5) rfl (j5 21 rfl (WL.stA 3 rfl rfl rfl rfl ?_)))
 refine jC (j9 [1, 3, 3] (hJ5) rfl (jT 22 rfl (Val.assignI rfl) (jT 23 rfl (Val.assignI rfl) (jT 24 rfl (Val.assignI rfl) (j6 (jA (jR ?_)))))))
 refine jP [] (RunRes.r5 rfl (jcL 2 rfl rfl rfl) (jcL 3 rfl rfl rfl) (jtI rfl) (jtI rfl) (jtI rfl)) ?_
 rw [hrem]
 exact ⟨rfl, _, _, rfl, hr, hnk.mono hJ5, hin⟩
end Go.Proofs.YtggcpoleklcmkaaGreatDoor

namespace Go.Tr
open Go.Sl Go.Ls
namespace Nd
def move (top : Nd) (i parent index : Int) : Nd × Int :=
 if (remove top i).2.2.2.2 ≠ 0 then (top, (remove top i).2.2.2.2) else match find parent top with
 | none => (top, 31)
 | some p => if p.grp = false then (top, 33) else if (find parent (remove top i).2.1).isSome = true then (top, 34)
  else if index < 0 ∨ (((find parent (remove top i).1).getD zero).kids.length : Int) < index then (top, 30)
  else if 64 < depth parent (remove top i).1 + (remove top i).2.1.height then (top, 35)
  else (with_ parent (((find parent (remove top i).1).getD zero).kids.take index.toNat ++ ((remove top i).2.1 :: ((find parent (remove top i).1).getD zero).kids.drop index.toNat)) (remove top i).1, 0)
theorem remove_size (top : Nd) (i : Int) : (remove top i).2.1.size ≤ top.size := by
 have h1 : zero.size ≤ top.size := by have := size_pos top; simp only [zero, size, sizes]; omega
 rw [remove]
 split
 ·exact h1
 ·split
  ·exact h1
  ·rename_i n hn
   split
   ·exact h1
   ·split
    ·exact h1
    ·exact find_size _ _ _ hn
theorem remove_id (top : Nd) (i : Int) : (remove top i).1.id = top.id ∧ (remove top i).1.grp = top.grp := by
 rw [remove]
 split
 ·exact ⟨rfl, rfl⟩
 ·split
  ·exact ⟨rfl, rfl⟩
  ·split
   ·exact ⟨rfl, rfl⟩
   ·split
    ·exact ⟨rfl, rfl⟩
    ·exact with_id _ _ _
end Nd
end Go.Tr
namespace Go.Proofs.YtggcpoleklcmkaaGreatDoor
open Go.Sl Go.Ls Go.Tr
attribute [local irreducible] WC WL WX WK WA WAK Val Ctr RunRes ResIs Rd At sl box pt Exit.then Exit.inBlock bodyPost Code.wp wpList
theorem fnd_getD {I : Mem} {r : Option Nd} {v : Value} (h : Fnd I r v) : ∃ kv, v = .tuple #[.agg #[vi (r.getD Nd.zero).id, .bool (r.getD Nd.zero).grp, kv], .bool r.isSome] ∧ I64 (r.getD Nd.zero).id ∧ LsAt Nd.Rp I (r.getD Nd.zero).kids kv := by
 rcases h with ⟨m, kv, rfl, rfl, h1, h2⟩ | ⟨rfl, rfl⟩
 ·exact ⟨kv, rfl, h1, h2⟩
 ·exact ⟨_, rfl, i64_0, LsAt.nil _ _⟩
theorem rMove (top : Nd) (tv : Value) (i parent index : Int) (I : Mem) (hbt : top.size ≤ 1000000000) (hit : I64 top.id) (htv : LsAt Nd.Rp I top.kids tv) (hhas : Nd.Has top i) (hbw : (Nd.remove top i).1.size ≤ 1000000000) :
  Ctr Tryz.prog 104 [.agg #[vi top.id, .bool top.grp, tv], vi i, vi parent, vi index] I [] (RetE (Nd.move top i parent index)) := by
 have hmv : ∀ x, Nd.remove top i = x → Nd.move top i parent index = if x.2.2.2.2 ≠ 0 then (top, x.2.2.2.2) else match Nd.find parent top with
   | none => (top, 31)
   | some p => if p.grp = false then (top, 33) else if (Nd.find parent x.2.1).isSome = true then (top, 34)
    else if index < 0 ∨ (((Nd.find parent x.1).getD Nd.zero).kids.length : Int) < index then (top, 30)
    else if 64 < Nd.depth parent x.1 + x.2.1.height then (top, 35)
    else (Nd.with_ parent (((Nd.find parent x.1).getD Nd.zero).kids.take index.toNat ++ (x.2.1 :: ((Nd.find parent x.1).getD Nd.zero).kids.drop index.toNat)) x.1, 0) := by
  intro x hx
  subst hx
  rfl
 have hrs := Nd.remove_size top i
 have hri := Nd.remove_id top i
 replace hbt : top.size ≤ 1099511627776 ∧ top.size ≤ 1000000000 := ⟨by omega, hbt⟩
 obtain ⟨hbt, hbt1⟩ := hbt
 have htv0 := htv
 obtain ⟨a9, c9, rfl⟩ := htv.sl
 have hcall := rRemove top _ i I hbt1 hit htv hhas
 generalize hx : Nd.remove top i = x at *
 have hmv := hmv x rfl
 obtain ⟨wo, n, q0, k0, e⟩ := x
 simp only at hmv hbw hrs hri
 have hiw : I64 wo.id := by rw [hri.1]; exact hit
 have hdw := Nd.depth_le parent wo
 have hhn := Nd.height_le n
 refine Ctr.intro Tryz.func104 rfl rfl rfl fun E F => ?_
 refine jS (WL.boxA rfl rfl (fun _ => ?_))
 refine jW ?_
 refine WL.alloc rfl (fun _ => ?_)
 refine jW ?_
 refine jf rfl (jN (jm (jt 1 rfl rfl rfl) (ja rfl (WL.callP [] rfl rfl hcall rfl ?_))))
 rintro v Ib _ hIb ⟨rfl, wv, nv, rfl, hwk, hnk, hin⟩
 simp only at hwk hnk hin
 have hwk0 := hwk
 have hnk0 := hnk
 obtain ⟨a8, c8, rfl⟩ := hwk.sl
 obtain ⟨a4, c4, rfl⟩ := hnk.sl
 have htv1 := htv.mono hIb
 by_cases he : e = 0
 case neg =>
  rw [if_pos he] at hmv
  refine jW ?_
  refine je rfl (jm (Val.extractA rfl rfl) (jm (Val.extractA rfl rfl) (jm (jq rfl rfl) (jm (jq rfl rfl) (jm (jq rfl rfl) (WL.alloc rfl (fun _ => ?_)))))))
  refine jW ?_
  refine WL.alloc rfl (fun _ => ?_)
  refine jW ?_
  refine WL.stA 3 rfl rfl rfl rfl ?_
  refine WL.stA 4 rfl rfl rfl rfl ?_
  refine jf rfl (jf rfl (jf rfl (jM (jB (jS (ja rfl (jJ rfl rfl (jM (jF (jS (jm (jt 1 rfl rfl rfl) (ja rfl (WL.stA 2 rfl rfl rfl rfl ?_)))))))))))))
  refine jf rfl (jM (jR (jU ?_)))
  refine jP [] (jr2 rfl (jcL 2 rfl rfl rfl) (jtI rfl)) ?_
  rw [hmv]
  exact ⟨rfl, _, rfl, htv1⟩
 subst he
 rw [if_neg (by decide)] at hmv
 have hnd : Nd.Rp Ib n [vi n.id, .bool n.grp, .slice a4 n.kids.length c4] := Nd.rep_iff.2 ⟨hin, _, rfl, hnk⟩
 refine jW ?_
 refine je rfl (jm (Val.extractA rfl rfl) (jm (Val.extractA rfl rfl) (jm (jq rfl rfl) (jm (jq rfl rfl) (jm (jq rfl rfl) (WL.alloc rfl (fun _ => ?_)))))))
 refine jW ?_
 refine WL.alloc rfl (fun _ => ?_)
 refine jW ?_
 refine WL.stA 3 rfl rfl rfl rfl ?_
 refine WL.stA 4 rfl rfl rfl rfl ?_
 refine jf rfl (jf rfl (jf rfl (jM (jB (jS (ja rfl (jm (Val.neq rfl rfl rfl) ?_)))))))
 refine jM (jE (jV (jK (jm (jt 1 rfl rfl rfl) (ja rfl (WL.callS rfl rfl (rFind parent _ top (Nat.le_refl _) _ _ hbt hit htv1) rfl ?_))))))
 rintro _ (⟨p, pv, hp, rfl, hip, hpk⟩ | ⟨hp, rfl⟩)
 case inr =>
  refine je rfl (jm (Val.extractA rfl rfl) (jm (Val.extractB rfl rfl) (WL.alloc rfl (fun _ => ?_))))
  refine jW ?_
  refine WL.stA 5 rfl rfl rfl rfl ?_
  refine jg rfl (jM (jB (jS (jb rfl (jl rfl (jM (jF (jS (jm (jt 1 rfl rfl rfl) (WL.stA 2 rfl rfl rfl rfl ?_))))))))))
  refine jf rfl (jM (jR (jU ?_)))
  refine jP [] (jr2 rfl (jcL 2 rfl rfl rfl) (jtI rfl)) ?_
  rw [hmv, hp]
  exact ⟨rfl, _, rfl, htv1⟩
 have hpk0 := hpk
 obtain ⟨a3, c3, rfl⟩ := hpk.sl
 rw [hp] at hmv
 simp only at hmv
 cases hg : p.grp
 ·skip
  refine je rfl (jm (Val.extractA rfl rfl) (jm (Val.extractB rfl rfl) (WL.alloc rfl (fun _ => ?_))))
  refine jW ?_
  refine WL.stA 5 rfl rfl rfl rfl ?_
  refine jg rfl (jM (jB (jS (jb rfl (jl rfl (jM (jE (jV (jA (jB (jS (jm (jn rfl) (jm (jp 5 rfl rfl rfl) (jl rfl (jM (jF (jS (jm (jt 1 rfl rfl rfl) (WL.stA 2 rfl rfl rfl rfl ?_)))))))))))))))))))
  refine jf rfl (jM (jR (jU ?_)))
  refine jP [] (jr2 rfl (jcL 2 rfl rfl rfl) (jtI rfl)) ?_
  rw [hmv, if_pos hg]
  exact ⟨rfl, _, rfl, htv1⟩
 rw [hg, if_neg (by decide)] at hmv
 refine je rfl (jm (Val.extractA rfl rfl) (jm (Val.extractB rfl rfl) (WL.alloc rfl (fun _ => ?_))))
 refine jW ?_
 refine WL.stA 5 rfl rfl rfl rfl ?_
 refine jg rfl (jM (jB (jS (jb rfl (jl rfl (jM (jE (jV (jA (jB (jS (jm (jn rfl) (jm (jp 5 rfl rfl rfl) (jl rfl (jM (jE (jV (jA (jB (jS (jm (jt 4 rfl rfl rfl) (ja rfl (WL.callS rfl rfl (rHas parent n _ _ (by omega) hin hnk) rfl ?_)))))))))))))))))))))))
 rintro _ rfl
 cases h34 : (Nd.find parent n).isSome
 case true =>
  refine jM (jF (jS (jm (jt 1 rfl rfl rfl) (WL.stA 2 rfl rfl rfl rfl ?_))))
  refine jf rfl (jM (jR (jU ?_)))
  refine jP [] (jr2 rfl (jcL 2 rfl rfl rfl) (jtI rfl)) ?_
  rw [hmv, if_pos h34]
  exact ⟨rfl, _, rfl, htv1⟩
 rw [h34, if_neg (by decide)] at hmv
 refine jM (jE (jV (jK (jm (jt 3 rfl rfl rfl) (ja rfl (WL.callS rfl rfl (rFind parent _ wo (Nat.le_refl _) _ _ (by omega) hiw hwk) rfl ?_))))))
 intro v hv
 obtain ⟨qv, rfl, hiq, hqk⟩ := fnd_getD hv
 clear hv
 have hqs : ((Nd.find parent wo).getD Nd.zero).size ≤ 1000000000 := by
  cases hq : Nd.find parent wo with
  | none => simp [Nd.zero, Nd.size, Nd.sizes]
  | some m => have := Nd.find_size _ _ _ hq; simp only [Option.getD_some]; omega
 generalize hb : (Nd.find parent wo).isSome = bq
 clear hb
 generalize (Nd.find parent wo).getD Nd.zero = q at *
 have hqk0 := hqk
 have hqn := hqk.le
 obtain ⟨a5, c5, rfl⟩ := hqk.sl
 have hpz := sizes_lt q
 have hpn := Nd.len_le_sizes q.kids
 by_cases hx : index < 0 ∨ (q.kids.length : Int) < index
 ·rw [if_pos hx] at hmv
  rw [hmv]
  by_cases hx0 : index < 0
  ·skip
   refine je rfl (jm (Val.extractA rfl rfl) (jm (Val.extractB rfl rfl) (WL.alloc rfl (fun _ => ?_))))
   refine jW ?_
   refine WL.stA 6 rfl rfl rfl rfl ?_
   refine jg rfl (jM (jB (jS (ja rfl (jy rfl rfl (jb rfl (jH (jH (jH (jH (jH (jk rfl (jM (jF (jS (jm (jt 1 rfl rfl rfl) (WL.stA 2 rfl rfl rfl rfl ?_)))))))))))))))))
   refine jf rfl (jM (jR (jU ?_)))
   exact jP [] (jr2 rfl (jcL 2 rfl rfl rfl) (jtI rfl)) ⟨rfl, _, rfl, htv1⟩
  ·skip
   refine je rfl (jm (Val.extractA rfl rfl) (jm (Val.extractB rfl rfl) (WL.alloc rfl (fun _ => ?_))))
   refine jW ?_
   refine WL.stA 6 rfl rfl rfl rfl ?_
   refine jg rfl (jM (jB (jS (ja rfl (jx rfl rfl (jb rfl (jG (ja rfl (jG (jm (jn rfl) (jG (jm (jp 6 rfl rfl rfl) (jG (jm (jo rfl) (jG (jO rfl rfl (jk rfl (jM (jF (jS (jm (jt 1 rfl rfl rfl) (WL.stA 2 rfl rfl rfl rfl ?_))))))))))))))))))))))
   refine jf rfl (jM (jR (jU ?_)))
   exact jP [] (jr2 rfl (jcL 2 rfl rfl rfl) (jtI rfl)) ⟨rfl, _, rfl, htv1⟩
 rw [if_neg hx] at hmv
 obtain ⟨ix, rfl⟩ : ∃ k : Nat, index = k := ⟨index.toNat, by omega⟩
 have hix : ix ≤ q.kids.length := by omega
 by_cases h35 : 64 < Nd.depth parent wo + n.height
 ·rw [if_pos h35] at hmv
  refine je rfl (jm (Val.extractA rfl rfl) (jm (Val.extractB rfl rfl) (WL.alloc rfl (fun _ => ?_))))
  refine jW ?_
  refine WL.stA 6 rfl rfl rfl rfl ?_
  refine jg rfl (jM (jB (jS (ja rfl (jx rfl rfl (jb rfl (jG (ja rfl (jG (jm (jn rfl) (jG (jm (jp 6 rfl rfl rfl) (jG (jm (jo rfl) (jG (jL rfl rfl (jk rfl (jM (jE (jV (jA (jB (jB (j8 999 [3, 3] rfl (jT 0 rfl (jt 0 rfl rfl rfl) (jT 1 rfl (Val.moveI rfl) (jT 3 rfl (jt 1 rfl rfl rfl) (j5 2 rfl (WL.callS rfl rfl (rDepth parent _ wo (Nat.le_refl _) _ _ (by omega) hiw hwk) rfl ?_)))))))))))))))))))))))))))))
  rintro _ rfl
  refine jC (j7 [3, 3] rfl (j5 4 rfl (WL.callS rfl rfl (rHeight _ n (Nat.le_refl _) _ _ (by omega) hin hnk) rfl ?_)))
  rintro _ rfl
  refine jC (j7 [3, 3] rfl (jT 5 rfl (Val.add rfl rfl (wrap_i64 (by omega) (by omega))) ?_))
  refine jT 6 rfl (Val.gtr rfl rfl (decide_eq_true (by omega))) ?_
  refine j6 (jA (jF (jS (jm (jt 1 rfl rfl rfl) (WL.stA 2 rfl rfl rfl rfl ?_)))))
  refine jf rfl (jM (jR (jU ?_)))
  refine jP [] (jr2 rfl (jcL 2 rfl rfl rfl) (jtI rfl)) ?_
  rw [hmv]
  exact ⟨rfl, _, rfl, htv1⟩
 rw [if_neg h35] at hmv
 refine je rfl (jm (Val.extractA rfl rfl) (jm (Val.extractB rfl rfl) (WL.alloc rfl (fun _ => ?_))))
 refine jW ?_
 refine WL.stA 6 rfl rfl rfl rfl ?_
 refine jg rfl (jM (jB (jS (ja rfl (jx rfl rfl (jb rfl (jG (ja rfl (jG (jm (jn rfl) (jG (jm (jp 6 rfl rfl rfl) (jG (jm (jo rfl) (jG (jL rfl rfl (jk rfl (jM (jE (jV (jA (jB (jB (j8 999 [3, 3] rfl (jT 0 rfl (jt 0 rfl rfl rfl) (jT 1 rfl (Val.moveI rfl) (jT 3 rfl (jt 1 rfl rfl rfl) (j5 2 rfl (WL.callS rfl rfl (rDepth parent _ wo (Nat.le_refl _) _ _ (by omega) hiw hwk) rfl ?_)))))))))))))))))))))))))))))
 rintro _ rfl
 refine jC (j7 [3, 3] rfl (j5 4 rfl (WL.callS rfl rfl (rHeight _ n (Nat.le_refl _) _ _ (by omega) hin hnk) rfl ?_)))
 rintro _ rfl
 refine jC (j7 [3, 3] rfl (jT 5 rfl (Val.add rfl rfl (wrap_i64 (by omega) (by omega))) ?_))
 refine jT 6 rfl (Val.gtr rfl rfl (decide_eq_false (by omega))) ?_
 refine j6 ?_
 have hjl : [(q.kids.drop 0).take (ix - 0), [n], (q.kids.drop ix).take (q.kids.length - ix)].flatten = q.kids.take ix ++ (n :: q.kids.drop ix) := by
  simp only [List.flatten_cons, List.flatten_nil, List.append_nil, List.drop_zero, Nat.sub_zero, List.singleton_append]
  rw [List.take_of_length_le (l := q.kids.drop ix) (by rw [List.length_drop]; omega)]
 rw [Int.toNat_natCast] at hmv
 have hln : (q.kids.take ix ++ (n :: q.kids.drop ix)).length = q.kids.length + 1 := by
  rw [List.length_append, List.length_cons, List.length_take, List.length_drop]; omega
 refine jA (jE (jV (jA (jB (j8 999 [3, 3, 4] rfl (jT 0 rfl (jt 0 rfl rfl rfl) (jT 1 rfl (Val.moveI rfl) (jT 2 rfl (jn rfl) (jT 3 rfl (jp 2 rfl rfl rfl) (jT 4 rfl (Val.moveI rfl) (jT 6 rfl (jt 1 rfl rfl rfl) (jT 8 rfl (jn rfl) (jT 9 rfl (jp 2 rfl rfl rfl) (jT 10 rfl (Val.moveI rfl) (jT 11 rfl (jn rfl) (jT 12 rfl (jp 2 rfl rfl rfl) (jT 13 rfl (jo rfl) ?_)))))))))))))))))
 refine jee 5 7 rfl rfl ?_ ?_
 ·skip
  refine WL.callP [] rfl rfl (rPart q.kids _ 0 ix _ (hqk.mono (Mem.le.refl _)) (by omega) (by omega) (by omega)) rfl ?_
  rintro v1 I1 _ hI1 ⟨rfl, ha⟩
  have ha0 := ha
  obtain ⟨aa, ca, rfl⟩ := ha.sl
  refine jW ?_
  have hJ1 := ((Mem.le.refl _)).trans hI1
  refine jC (j9 [3, 3, 4] ((hJ1)) rfl ?_)
  refine jee 7 14 rfl rfl ?_ ?_
  ·skip
   refine WL.buildSlice (by with_unfolding_all exact rfl) rfl (by with_unfolding_all exact rfl) rfl (fun _ => ?_)
   rename_i gl
   refine jW ?_
   refine WL.lit (R := Nd.Rp) (sz := 3) (l := [n]) (css := [[vi n.id, .bool n.grp, .slice a4 n.kids.length c4]]) 7 rfl ⟨Nd.rp_mono hnd (hJ1), trivial⟩ rfl (show 1 ≤ maxLen by decide) fun I2 hI2 hb => ?_
   replace ha := ha.mono hI2
   have hJ2 := (hJ1).trans hI2
   refine jC (j9 [3, 3, 4] ((hJ2)) rfl (j5 14 rfl (WL.callP [] rfl rfl (rPart q.kids _ ix q.kids.length _ (hqk.mono hJ2) (by omega) (by omega) (by omega)) rfl ?_)))
   rintro v3 I3 _ hI3 ⟨rfl, hc⟩
   have hc0 := hc
   obtain ⟨ac, cc, rfl⟩ := hc.sl
   refine jW ?_
   replace ha := ha.mono hI3
   replace hb := hb.mono hI3
   have hJ3 := (hJ2).trans hI3
   refine jC (j9 [3, 3, 4] ((hJ3)) rfl (j5 15 rfl (WL.buildSlice (by with_unfolding_all exact rfl) rfl (by with_unfolding_all exact rfl) rfl (fun _ => ?_))))
   rename_i gb
   refine jW ?_
   refine WL.lit (R := Rl) (sz := 1) (l := [(q.kids.drop 0).take (ix - 0), [n], (q.kids.drop ix).take (q.kids.length - ix)]) (css := [[_], [_], [_]]) 7 rfl ⟨⟨_, rfl, ha⟩, ⟨_, rfl, hb⟩, ⟨_, rfl, hc⟩, trivial⟩ rfl (show 3 ≤ maxLen by decide) fun I4 hI4 hl => ?_
   have hJ4 := (hJ3).trans hI4
   refine jC (j9 [3, 3, 4] ((hJ4)) rfl (j5 16 rfl (WL.callP [] rfl rfl (rJoin _ _ _ hl (by rw [hjl]; omega)) rfl ?_)))
   rintro v I5 _ hI5 ⟨rfl, hw⟩
   have hJ5 := (hJ4).trans hI5
   rw [hjl] at hw
   have hw0 := hw
   obtain ⟨aw, cw, rfl⟩ := hw.sl
   refine jW ?_
   refine jC (j9 [3, 3, 4] ((hJ5)) rfl (j5 17 rfl (WL.callP [] rfl rfl (rWith parent _ _ wo (Nat.le_refl _) _ _ _ (by omega) hiw (hwk.mono hJ5) hw) rfl ?_)))
   rintro v I6 _ hI6 ⟨rfl, kw, rfl, hr⟩
   have hJ6 := (hJ5).trans hI6
   have hr0 := hr
   obtain ⟨ar, cr, rfl⟩ := hr.sl
   refine jW ?_
   refine jC (j9 [3, 3, 4] ((hJ6)) rfl (j5 18 rfl (WL.stA 2 rfl rfl rfl rfl ?_)))
   refine jC (j9 [3, 3, 4] ((hJ6)) rfl (jT 19 rfl (Val.assignI rfl) (j6 (jA (jR ?_)))))
   have hK := hIb.trans hJ6
   refine jP [] (jr2 rfl (jcL 2 rfl rfl rfl) (jtI rfl)) ?_
   rw [hmv]
   exact ⟨rfl, _, rfl, hr⟩
  ·skip
   refine WL.callP [] rfl rfl (rPart q.kids _ ix q.kids.length _ (hqk.mono hJ1) (by omega) (by omega) (by omega)) rfl ?_
   rintro v2 I2 _ hI2 ⟨rfl, hc⟩
   have hc0 := hc
   obtain ⟨ac, cc, rfl⟩ := hc.sl
   refine jW ?_
   replace ha := ha.mono hI2
   have hJ2 := (hJ1).trans hI2
   refine jC (j9 [3, 3, 4] ((hJ2)) rfl (j5 7 rfl (WL.buildSlice (by with_unfolding_all exact rfl) rfl (by with_unfolding_all exact rfl) rfl (fun _ => ?_))))
   rename_i gl
   refine jW ?_
   refine WL.lit (R := Nd.Rp) (sz := 3) (l := [n]) (css := [[vi n.id, .bool n.grp, .slice a4 n.kids.length c4]]) 7 rfl ⟨Nd.rp_mono hnd (hJ2), trivial⟩ rfl (show 1 ≤ maxLen by decide) fun I3 hI3 hb => ?_
   replace ha := ha.mono hI3
   replace hc := hc.mono hI3
   have hJ3 := (hJ2).trans hI3
   refine jC (j9 [3, 3, 4] ((hJ3)) rfl (j5 15 rfl (WL.buildSlice (by with_unfolding_all exact rfl) rfl (by with_unfolding_all exact rfl) rfl (fun _ => ?_))))
   rename_i gb
   refine jW ?_
   refine WL.lit (R := Rl) (sz := 1) (l := [(q.kids.drop 0).take (ix - 0), [n], (q.kids.drop ix).take (q.kids.length - ix)]) (css := [[_], [_], [_]]) 7 rfl ⟨⟨_, rfl, ha⟩, ⟨_, rfl, hb⟩, ⟨_, rfl, hc⟩, trivial⟩ rfl (show 3 ≤ maxLen by decide) fun I4 hI4 hl => ?_
   have hJ4 := (hJ3).trans hI4
   refine jC (j9 [3, 3, 4] ((hJ4)) rfl (j5 16 rfl (WL.callP [] rfl rfl (rJoin _ _ _ hl (by rw [hjl]; omega)) rfl ?_)))
   rintro v I5 _ hI5 ⟨rfl, hw⟩
   have hJ5 := (hJ4).trans hI5
   rw [hjl] at hw
   have hw0 := hw
   obtain ⟨aw, cw, rfl⟩ := hw.sl
   refine jW ?_
   refine jC (j9 [3, 3, 4] ((hJ5)) rfl (j5 17 rfl (WL.callP [] rfl rfl (rWith parent _ _ wo (Nat.le_refl _) _ _ _ (by omega) hiw (hwk.mono hJ5) hw) rfl ?_)))
   rintro v I6 _ hI6 ⟨rfl, kw, rfl, hr⟩
   have hJ6 := (hJ5).trans hI6
   have hr0 := hr
   obtain ⟨ar, cr, rfl⟩ := hr.sl
   refine jW ?_
   refine jC (j9 [3, 3, 4] ((hJ6)) rfl (j5 18 rfl (WL.stA 2 rfl rfl rfl rfl ?_)))
   refine jC (j9 [3, 3, 4] ((hJ6)) rfl (jT 19 rfl (Val.assignI rfl) (j6 (jA (jR ?_)))))
   have hK := hIb.trans hJ6
   refine jP [] (jr2 rfl (jcL 2 rfl rfl rfl) (jtI rfl)) ?_
   rw [hmv]
   exact ⟨rfl, _, rfl, hr⟩
 ·skip
  refine WL.buildSlice (by with_unfolding_all exact rfl) rfl (by with_unfolding_all exact rfl) rfl (fun _ => ?_)
  rename_i gl
  refine jW ?_
  refine WL.lit (R := Nd.Rp) (sz := 3) (l := [n]) (css := [[vi n.id, .bool n.grp, .slice a4 n.kids.length c4]]) 7 rfl ⟨Nd.rp_mono hnd ((Mem.le.refl _)), trivial⟩ rfl (show 1 ≤ maxLen by decide) fun I1 hI1 hb => ?_
  have hJ1 := ((Mem.le.refl _)).trans hI1
  refine jC (j9 [3, 3, 4] ((hJ1)) rfl (j5 5 rfl (WL.callP [] rfl rfl (rPart q.kids _ 0 ix _ (hqk.mono hJ1) (by omega) (by omega) (by omega)) rfl ?_)))
  rintro v2 I2 _ hI2 ⟨rfl, ha⟩
  have ha0 := ha
  obtain ⟨aa, ca, rfl⟩ := ha.sl
  refine jW ?_
  replace hb := hb.mono hI2
  have hJ2 := (hJ1).trans hI2
  refine jC (j9 [3, 3, 4] ((hJ2)) rfl (j5 14 rfl (WL.callP [] rfl rfl (rPart q.kids _ ix q.kids.length _ (hqk.mono hJ2) (by omega) (by omega) (by omega)) rfl ?_)))
  rintro v3 I3 _ hI3 ⟨rfl, hc⟩
  have hc0 := hc
  obtain ⟨ac, cc, rfl⟩ := hc.sl
  refine jW ?_
  replace ha := ha.mono hI3
  replace hb := hb.mono hI3
  have hJ3 := (hJ2).trans hI3
  refine jC (j9 [3, 3, 4] ((hJ3)) rfl (j5 15 rfl (WL.buildSlice (by with_unfolding_all exact rfl) rfl (by with_unfolding_all exact rfl) rfl (fun _ => ?_))))
  rename_i gb
  refine jW ?_
  refine WL.lit (R := Rl) (sz := 1) (l := [(q.kids.drop 0).take (ix - 0), [n], (q.kids.drop ix).take (q.kids.length - ix)]) (css := [[_], [_], [_]]) 7 rfl ⟨⟨_, rfl, ha⟩, ⟨_, rfl, hb⟩, ⟨_, rfl, hc⟩, trivial⟩ rfl (show 3 ≤ maxLen by decide) fun I4 hI4 hl => ?_
  have hJ4 := (hJ3).trans hI4
  refine jC (j9 [3, 3, 4] ((hJ4)) rfl (j5 16 rfl (WL.callP [] rfl rfl (rJoin _ _ _ hl (by rw [hjl]; omega)) rfl ?_)))
  rintro v I5 _ hI5 ⟨rfl, hw⟩
  have hJ5 := (hJ4).trans hI5
  rw [hjl] at hw
  have hw0 := hw
  obtain ⟨aw, cw, rfl⟩ := hw.sl
  refine jW ?_
  refine jC (j9 [3, 3, 4] ((hJ5)) rfl (j5 17 rfl (WL.callP [] rfl rfl (rWith parent _ _ wo (Nat.le_refl _) _ _ _ (by omega) hiw (hwk.mono hJ5) hw) rfl ?_)))
  rintro v I6 _ hI6 ⟨rfl, kw, rfl, hr⟩
  have hJ6 := (hJ5).trans hI6
  have hr0 := hr
  obtain ⟨ar, cr, rfl⟩ := hr.sl
  refine jW ?_
  refine jC (j9 [3, 3, 4] ((hJ6)) rfl (j5 18 rfl (WL.stA 2 rfl rfl rfl rfl ?_)))
  refine jC (j9 [3, 3, 4] ((hJ6)) rfl (jT 19 rfl (Val.assignI rfl) (j6 (jA (jR ?_)))))
  have hK := hIb.trans hJ6
  refine jP [] (jr2 rfl (jcL 2 rfl rfl rfl) (jtI rfl)) ?_
  rw [hmv]
  exact ⟨rfl, _, rfl, hr⟩
end Go.Proofs.YtggcpoleklcmkaaGreatDoor

namespace Go.Tr
open Go.Sl Go.Ls
namespace Nd
def wrap (top : Nd) (i parent index count : Int) : Nd × Int :=
 match find parent top with
 | none => (top, 31)
 | some p => if p.grp = false then (top, 33)
  else if index < 0 ∨ count < 0 ∨ (p.kids.length : Int) < index ∨ (p.kids.length : Int) - index < count then (top, 30)
  else if fits top (mk i true []) (depth parent top + 1) ≠ 0 then (top, fits top (mk i true []) (depth parent top + 1))
  else if 64 < depth parent top + 1 + (mk i true ((p.kids.drop index.toNat).take count.toNat)).height - 1 then (top, 35)
  else (with_ parent (p.kids.take index.toNat ++ (mk i true ((p.kids.drop index.toNat).take count.toNat) :: p.kids.drop (index.toNat + count.toNat))) top, 0)
theorem sizes_drop : ∀ (l : List Nd) (k : Nat), sizes (l.drop k) ≤ sizes l
 | [], k => by simp [sizes]
 | x :: l, 0 => by simp [sizes]
 | x :: l, k + 1 => by simp only [List.drop_succ_cons, sizes]; have := sizes_drop l k; omega
end Nd
end Go.Tr
namespace Go.Proofs.YtggcpoleklcmkaaGreatDoor
open Go.Sl Go.Ls Go.Tr
attribute [local irreducible] WC WL WX WK WA WAK Val Ctr RunRes ResIs Rd At sl box pt Exit.then Exit.inBlock bodyPost Code.wp wpList
theorem rWrap (top : Nd) (tv : Value) (i parent index count : Int) (I : Mem) (hbt : top.size ≤ 1000000000) (hit : I64 top.id) (htv : LsAt Nd.Rp I top.kids tv) (hi : I64 i) :
  Ctr Tryz.prog 105 [.agg #[vi top.id, .bool top.grp, tv], vi i, vi parent, vi index, vi count] I [] (RetE (Nd.wrap top i parent index count)) := by
 have hwr : Nd.wrap top i parent index count = match Nd.find parent top with
  | none => (top, 31)
  | some p => if p.grp = false then (top, 33)
   else if index < 0 ∨ count < 0 ∨ (p.kids.length : Int) < index ∨ (p.kids.length : Int) - index < count then (top, 30)
   else if Nd.fits top (.mk i true []) (Nd.depth parent top + 1) ≠ 0 then (top, Nd.fits top (.mk i true []) (Nd.depth parent top + 1))
   else if 64 < Nd.depth parent top + 1 + (Nd.mk i true ((p.kids.drop index.toNat).take count.toNat)).height - 1 then (top, 35)
   else (Nd.with_ parent (p.kids.take index.toNat ++ (.mk i true ((p.kids.drop index.toNat).take count.toNat) :: p.kids.drop (index.toNat + count.toNat))) top, 0) := rfl
 replace hbt : top.size ≤ 1099511627776 ∧ top.size ≤ 1000000000 := ⟨by omega, hbt⟩
 obtain ⟨hbt, hbt1⟩ := hbt
 have htv0 := htv
 obtain ⟨a9, c9, rfl⟩ := htv.sl
 have hdp := Nd.depth_le parent top
 refine Ctr.intro Tryz.func105 rfl rfl rfl fun E F => ?_
 refine jS (WL.boxA rfl rfl (fun _ => ?_))
 refine jW ?_
 refine WL.alloc rfl (fun _ => ?_)
 refine jW ?_
 refine jf rfl (jN (jm (jt 1 rfl rfl rfl) (ja rfl (WL.callS rfl rfl (rFind parent _ top (Nat.le_refl _) _ _ hbt hit htv) rfl ?_))))
 rintro _ (⟨p, pv, hp, rfl, hip, hpk⟩ | ⟨hp, rfl⟩)
 case inr =>
  refine je rfl (jm (Val.extractA rfl rfl) (jm (Val.extractB rfl rfl) (WL.alloc rfl (fun _ => ?_))))
  refine jW ?_
  refine WL.stA 3 rfl rfl rfl rfl ?_
  refine jg rfl (jM (jB (jS (jb rfl (jl rfl (jM (jF (jS (jm (jt 1 rfl rfl rfl) (WL.stA 2 rfl rfl rfl rfl ?_))))))))))
  refine jf rfl (jM (jR (jU ?_)))
  refine jP [] (jr2 rfl (jcL 2 rfl rfl rfl) (jtI rfl)) ?_
  rw [hwr, hp]
  exact ⟨rfl, _, rfl, htv⟩
 have hpk0 := hpk
 have hpl := hpk.le
 obtain ⟨a3, c3, rfl⟩ := hpk.sl
 have hps := Nd.find_size parent top p hp
 have hpz := sizes_lt p
 have hpn := Nd.len_le_sizes p.kids
 rw [hp] at hwr
 simp only at hwr
 cases hg : p.grp
 ·skip
  refine je rfl (jm (Val.extractA rfl rfl) (jm (Val.extractB rfl rfl) (WL.alloc rfl (fun _ => ?_))))
  refine jW ?_
  refine WL.stA 3 rfl rfl rfl rfl ?_
  refine jg rfl (jM (jB (jS (jb rfl (jl rfl (jM (jE (jV (jA (jB (jS (jm (jn rfl) (jm (jp 3 rfl rfl rfl) (jl rfl (jM (jF (jS (jm (jt 1 rfl rfl rfl) (WL.stA 2 rfl rfl rfl rfl ?_)))))))))))))))))))
  refine jf rfl (jM (jR (jU ?_)))
  refine jP [] (jr2 rfl (jcL 2 rfl rfl rfl) (jtI rfl)) ?_
  rw [hwr, if_pos hg]
  exact ⟨rfl, _, rfl, htv⟩
 rw [hg, if_neg (by decide)] at hwr
 by_cases hx : index < 0 ∨ count < 0 ∨ (p.kids.length : Int) < index ∨ (p.kids.length : Int) - index < count
 ·rw [if_pos hx] at hwr
  rw [hwr]
  by_cases hx0 : index < 0
  ·skip
   refine je rfl (jm (Val.extractA rfl rfl) (jm (Val.extractB rfl rfl) (WL.alloc rfl (fun _ => ?_))))
   refine jW ?_
   refine WL.stA 3 rfl rfl rfl rfl ?_
   refine jg rfl (jM (jB (jS (jb rfl (jl rfl (jM (jE (jV (jA (jB (jS (jm (jn rfl) (jm (jp 3 rfl rfl rfl) (jl rfl (jM (jE (jV (jA (jB (jS (ja rfl (jy rfl rfl (jb rfl (jH (jH (jk rfl (jb rfl (jH (jH (jH (jH (jH (jk rfl (jb rfl (jH (jH (jH (jH (jH ?_)))))))))))))))))))))))))))))))))))))))
   refine jH (jH (jk rfl (jM (jF (jS (jm (jt 1 rfl rfl rfl) (WL.stA 2 rfl rfl rfl rfl ?_)))))))
   refine jf rfl (jM (jR (jU ?_)))
   exact jP [] (jr2 rfl (jcL 2 rfl rfl rfl) (jtI rfl)) ⟨rfl, _, rfl, htv⟩
  by_cases hx1 : count < 0
  ·skip
   refine je rfl (jm (Val.extractA rfl rfl) (jm (Val.extractB rfl rfl) (WL.alloc rfl (fun _ => ?_))))
   refine jW ?_
   refine WL.stA 3 rfl rfl rfl rfl ?_
   refine jg rfl (jM (jB (jS (jb rfl (jl rfl (jM (jE (jV (jA (jB (jS (jm (jn rfl) (jm (jp 3 rfl rfl rfl) (jl rfl (jM (jE (jV (jA (jB (jS (ja rfl (jx rfl rfl (jb rfl (jG (ja rfl (jG (jy rfl rfl (jk rfl (jb rfl (jH (jH (jH (jH (jH (jk rfl (jb rfl (jH (jH (jH ?_)))))))))))))))))))))))))))))))))))))))
   refine jH (jH (jH (jH (jk rfl (jM (jF (jS (jm (jt 1 rfl rfl rfl) (WL.stA 2 rfl rfl rfl rfl ?_)))))))))
   refine jf rfl (jM (jR (jU ?_)))
   exact jP [] (jr2 rfl (jcL 2 rfl rfl rfl) (jtI rfl)) ⟨rfl, _, rfl, htv⟩
  by_cases hx2 : (p.kids.length : Int) < index
  ·skip
   refine je rfl (jm (Val.extractA rfl rfl) (jm (Val.extractB rfl rfl) (WL.alloc rfl (fun _ => ?_))))
   refine jW ?_
   refine WL.stA 3 rfl rfl rfl rfl ?_
   refine jg rfl (jM (jB (jS (jb rfl (jl rfl (jM (jE (jV (jA (jB (jS (jm (jn rfl) (jm (jp 3 rfl rfl rfl) (jl rfl (jM (jE (jV (jA (jB (jS (ja rfl (jx rfl rfl (jb rfl (jG (ja rfl (jG (jx rfl rfl (jk rfl (jb rfl (jG (ja rfl (jG (jm (jn rfl) (jG (jm (jp 3 rfl rfl rfl) (jG (jm (jo rfl) (jG (jO rfl rfl ?_)))))))))))))))))))))))))))))))))))))))
   refine jk rfl (jb rfl (jH (jH (jH (jH (jH (jH (jH (jk rfl (jM (jF (jS (jm (jt 1 rfl rfl rfl) (WL.stA 2 rfl rfl rfl rfl ?_))))))))))))))
   refine jf rfl (jM (jR (jU ?_)))
   exact jP [] (jr2 rfl (jcL 2 rfl rfl rfl) (jtI rfl)) ⟨rfl, _, rfl, htv⟩
  ·skip
   refine je rfl (jm (Val.extractA rfl rfl) (jm (Val.extractB rfl rfl) (WL.alloc rfl (fun _ => ?_))))
   refine jW ?_
   refine WL.stA 3 rfl rfl rfl rfl ?_
   refine jg rfl (jM (jB (jS (jb rfl (jl rfl (jM (jE (jV (jA (jB (jS (jm (jn rfl) (jm (jp 3 rfl rfl rfl) (jl rfl (jM (jE (jV (jA (jB (jS (ja rfl (jx rfl rfl (jb rfl (jG (ja rfl (jG (jx rfl rfl (jk rfl (jb rfl (jG (ja rfl (jG (jm (jn rfl) (jG (jm (jp 3 rfl rfl rfl) (jG (jm (jo rfl) (jG (jL rfl rfl ?_)))))))))))))))))))))))))))))))))))))))
   refine jk rfl (jb rfl (jG (ja rfl (jG (jm (jn rfl) (jG (jm (jp 3 rfl rfl rfl) (jG (jm (jo rfl) (jG (ja rfl (jG (jm (Val.sub rfl rfl (wrap_i64 (by omega) (by omega))) ?_)))))))))))))
   refine jG (jO rfl rfl (jk rfl (jM (jF (jS (jm (jt 1 rfl rfl rfl) (WL.stA 2 rfl rfl rfl rfl ?_)))))))
   refine jf rfl (jM (jR (jU ?_)))
   exact jP [] (jr2 rfl (jcL 2 rfl rfl rfl) (jtI rfl)) ⟨rfl, _, rfl, htv⟩
 rw [if_neg hx] at hwr
 obtain ⟨ix, rfl⟩ : ∃ k : Nat, index = k := ⟨index.toNat, by omega⟩
 obtain ⟨cn, rfl⟩ : ∃ k : Nat, count = k := ⟨count.toNat, by omega⟩
 have hix : ix + cn ≤ p.kids.length := by omega
 simp only [Int.toNat_natCast] at hwr
 refine je rfl (jm (Val.extractA rfl rfl) (jm (Val.extractB rfl rfl) (WL.alloc rfl (fun _ => ?_))))
 refine jW ?_
 refine WL.stA 3 rfl rfl rfl rfl ?_
 refine jg rfl (jM (jB (jS (jb rfl (jl rfl (jM (jE (jV (jA (jB (jS (jm (jn rfl) (jm (jp 3 rfl rfl rfl) (jl rfl (jM (jE (jV (jA (jB (jS (ja rfl (jx rfl rfl (jb rfl (jG (ja rfl (jG (jx rfl rfl (jk rfl (jb rfl (jG (ja rfl (jG (jm (jn rfl) (jG (jm (jp 3 rfl rfl rfl) (jG (jm (jo rfl) (jG (jL rfl rfl ?_)))))))))))))))))))))))))))))))))))))))
 refine jk rfl (jb rfl (jG (ja rfl (jG (jm (jn rfl) (jG (jm (jp 3 rfl rfl rfl) (jG (jm (jo rfl) (jG (ja rfl (jG (jm (Val.sub rfl rfl (wrap_i64 (by omega) (by omega))) ?_)))))))))))))
 refine jG (jL rfl rfl (jk rfl (jM (jE (jV (jK (jm (jt 1 rfl rfl rfl) (ja rfl (WL.callS rfl rfl (rDepth parent _ top (Nat.le_refl _) _ _ hbt hit htv) rfl ?_)))))))))
 rintro _ rfl
 refine jX rfl rfl (jf rfl (jM (jB (jS (jm (jt 1 rfl rfl rfl) (ja rfl (jm (Val.build (cs := [vi i, .bool true, .slice none 0 0]) rfl) ?_)))))))
 refine ja rfl (WL.callS rfl rfl (rFits top (.mk i true []) _ (.slice none 0 0) _ _ hbt (by simp [Nd.size, Nd.sizes]) hit htv hi (LsAt.nil _ _) (by omega) (by omega)) rfl ?_)
 rintro _ rfl
 by_cases hf : Nd.fits top (.mk i true []) (Nd.depth parent top + 1) = 0
 case neg =>
  rw [if_pos hf] at hwr
  refine jf rfl (jN (ja rfl (jJ rfl rfl (jM (jF (jS (jm (jt 1 rfl rfl rfl) (ja rfl (WL.stA 2 rfl rfl rfl rfl ?_)))))))))
  refine jf rfl (jM (jR (jU ?_)))
  refine jP [] (jr2 rfl (jcL 2 rfl rfl rfl) (jtI rfl)) ?_
  rw [hwr]
  exact ⟨rfl, _, rfl, htv⟩
 rw [hf, if_neg (by decide)] at hwr
 rw [hf]
 refine jf rfl (jN (ja rfl (jz rfl rfl (jM (jE (jV (jK (ja rfl (jm (jn rfl) (jm (jp 3 rfl rfl rfl) (ja rfl (ja rfl (ja rfl (jX rfl rfl (WL.callP [] rfl rfl (rPart p.kids _ ix (ix + cn) _ hpk (by omega) (by omega) (by omega)) rfl ?_)))))))))))))))
 rintro v Ib _ hIb ⟨rfl, hgk⟩
 rw [Nat.add_sub_cancel_left] at hgk
 have hgs : (Nd.mk i true ((p.kids.drop ix).take cn)).size ≤ 1 + p.size := by
  have h1 := Nd.sizes_take (p.kids.drop ix) cn
  have h2 := Nd.sizes_drop p.kids ix
  simp only [Nd.size]
  omega
 have hgg : (Nd.mk i true ((p.kids.drop ix).take cn)).grp = true := rfl
 have hgi : (Nd.mk i true ((p.kids.drop ix).take cn)).id = i := rfl
 have hgq : (Nd.mk i true ((p.kids.drop ix).take cn)).kids = (p.kids.drop ix).take cn := rfl
 rw [← hgq] at hgk
 generalize Nd.mk i true ((p.kids.drop ix).take cn) = n at *
 clear hgq
 have hgh := Nd.height_le n
 have hgk0 := hgk
 obtain ⟨a4, c4, rfl⟩ := hgk.sl
 have hnd : Nd.Rp Ib n [vi n.id, .bool n.grp, .slice a4 n.kids.length c4] := Nd.rep_iff.2 ⟨by rw [hgi]; exact hi, _, rfl, hgk⟩
 rw [hgg, hgi] at hnd
 refine jW ?_
 skip
 refine jm (Val.build (cs := [vi i, .bool true, .slice a4 n.kids.length c4]) rfl) ?_
 refine WL.alloc rfl (fun _ => ?_)
 refine jW ?_
 refine WL.stA 4 rfl rfl rfl rfl ?_
 refine jM (jB (jS (ja rfl (jm (jt 4 rfl rfl rfl) (WL.callS rfl (by rw [← hgg, ← hgi]; rfl) (rHeight _ n (Nat.le_refl _) _ _ (by omega) (by rw [hgi]; exact hi) hgk) rfl ?_)))))
 rintro _ rfl
 have htv1 := htv.mono hIb
 by_cases h35 : 64 < Nd.depth parent top + 1 + n.height - 1
 ·rw [if_pos h35] at hwr
  refine jX rfl rfl (jm (Val.sub rfl rfl (wrap_i64 (by omega) (by omega))) ?_)
  refine jO rfl rfl (jM (jF (jS (jm (jt 1 rfl rfl rfl) (WL.stA 2 rfl rfl rfl rfl ?_)))))
  refine jf rfl (jM (jR (jU ?_)))
  refine jP [] (jr2 rfl (jcL 2 rfl rfl rfl) (jtI rfl)) ?_
  rw [hwr]
  exact ⟨rfl, _, rfl, htv1⟩
 rw [if_neg h35] at hwr
 have hpk1 := hpk.mono hIb
 have hjl : [(p.kids.drop 0).take (ix - 0), [n], (p.kids.drop (ix + cn)).take (p.kids.length - (ix + cn))].flatten = p.kids.take ix ++ (n :: p.kids.drop (ix + cn)) := by
  simp only [List.flatten_cons, List.flatten_nil, List.append_nil, List.drop_zero, Nat.sub_zero, List.singleton_append]
  rw [List.take_of_length_le (l := p.kids.drop (ix + cn)) (by rw [List.length_drop]; omega)]
 have hln : (p.kids.take ix ++ (n :: p.kids.drop (ix + cn))).length ≤ p.kids.length + 1 := by
  rw [List.length_append, List.length_cons, List.length_take, List.length_drop]; omega
 refine jX rfl rfl (jm (Val.sub rfl rfl (wrap_i64 (by omega) (by omega))) ?_)
 refine jL rfl rfl (jM (jE (jV (jA (jB (j8 999 [1, 2, 2] rfl (jT 0 rfl (jt 0 rfl rfl rfl) (jT 1 rfl (Val.moveI rfl) (jT 2 rfl (jn rfl) (jT 3 rfl (jp 1 rfl rfl rfl) (jT 4 rfl (Val.moveI rfl) (jT 6 rfl (jt 2 rfl rfl rfl) (jT 8 rfl (jn rfl) (jT 9 rfl (jp 1 rfl rfl rfl) (jT 10 rfl (Val.moveI rfl) (jT 11 rfl (Val.moveI rfl) (jT 12 rfl (Val.add rfl rfl (wrap_i64 (by omega) (by omega))) ?_)))))))))))))))))
 refine jT 13 rfl (jn rfl) (jT 14 rfl (jp 1 rfl rfl rfl) (jT 15 rfl (jo rfl) ?_))
 refine jee 5 7 rfl rfl ?_ ?_
 ·skip
  refine WL.callP [] rfl rfl (rPart p.kids _ 0 ix _ (hpk1.mono (Mem.le.refl _)) (by omega) (by omega) (by omega)) rfl ?_
  rintro v1 I1 _ hI1 ⟨rfl, ha⟩
  have ha0 := ha
  obtain ⟨aa, ca, rfl⟩ := ha.sl
  refine jW ?_
  have hJ1 := ((Mem.le.refl _)).trans hI1
  refine jC (j9 [1, 2, 2] ((hJ1)) rfl ?_)
  refine jee 7 16 rfl rfl ?_ ?_
  ·skip
   refine WL.buildSlice (by with_unfolding_all exact rfl) rfl (by with_unfolding_all exact rfl) rfl (fun _ => ?_)
   rename_i gl
   refine jW ?_
   refine WL.lit (R := Nd.Rp) (sz := 3) (l := [n]) (css := [[vi i, .bool true, .slice a4 n.kids.length c4]]) 5 rfl ⟨Nd.rp_mono hnd (hJ1), trivial⟩ rfl (show 1 ≤ maxLen by decide) fun I2 hI2 hb => ?_
   replace ha := ha.mono hI2
   have hJ2 := (hJ1).trans hI2
   refine jC (j9 [1, 2, 2] ((hJ2)) rfl (j5 16 rfl (WL.callP [] rfl rfl (rPart p.kids _ (ix + cn) p.kids.length _ (hpk1.mono hJ2) (by omega) (by omega) (by omega)) rfl ?_)))
   rintro v3 I3 _ hI3 ⟨rfl, hc⟩
   have hc0 := hc
   obtain ⟨ac, cc, rfl⟩ := hc.sl
   refine jW ?_
   replace ha := ha.mono hI3
   replace hb := hb.mono hI3
   have hJ3 := (hJ2).trans hI3
   refine jC (j9 [1, 2, 2] ((hJ3)) rfl (j5 17 rfl (WL.buildSlice (by with_unfolding_all exact rfl) rfl (by with_unfolding_all exact rfl) rfl (fun _ => ?_))))
   rename_i gb
   refine jW ?_
   refine WL.lit (R := Rl) (sz := 1) (l := [(p.kids.drop 0).take (ix - 0), [n], (p.kids.drop (ix + cn)).take (p.kids.length - (ix + cn))]) (css := [[_], [_], [_]]) 5 rfl ⟨⟨_, rfl, ha⟩, ⟨_, rfl, hb⟩, ⟨_, rfl, hc⟩, trivial⟩ rfl (show 3 ≤ maxLen by decide) fun I4 hI4 hl => ?_
   have hJ4 := (hJ3).trans hI4
   refine jC (j9 [1, 2, 2] ((hJ4)) rfl (j5 18 rfl (WL.callP [] rfl rfl (rJoin _ _ _ hl (by rw [hjl]; omega)) rfl ?_)))
   rintro v I5 _ hI5 ⟨rfl, hw⟩
   have hJ5 := (hJ4).trans hI5
   rw [hjl] at hw
   have hw0 := hw
   obtain ⟨aw, cw, rfl⟩ := hw.sl
   refine jW ?_
   refine jC (j9 [1, 2, 2] ((hJ5)) rfl (j5 19 rfl (WL.callP [] rfl rfl (rWith parent _ _ top (Nat.le_refl _) _ _ _ hbt hit (htv1.mono hJ5) hw) rfl ?_)))
   rintro v I6 _ hI6 ⟨rfl, kw, rfl, hr⟩
   have hJ6 := (hJ5).trans hI6
   have hr0 := hr
   obtain ⟨ar, cr, rfl⟩ := hr.sl
   refine jW ?_
   refine jC (j9 [1, 2, 2] ((hJ6)) rfl (j5 20 rfl (WL.stA 2 rfl rfl rfl rfl ?_)))
   refine jC (j9 [1, 2, 2] ((hJ6)) rfl (jT 21 rfl (Val.assignI rfl) (j6 (jA (jR ?_)))))
   have hK := hIb.trans hJ6
   refine jP [] (jr2 rfl (jcL 2 rfl rfl rfl) (jtI rfl)) ?_
   rw [hwr]
   exact ⟨rfl, _, rfl, hr⟩
  ·skip
   refine WL.callP [] rfl rfl (rPart p.kids _ (ix + cn) p.kids.length _ (hpk1.mono hJ1) (by omega) (by omega) (by omega)) rfl ?_
   rintro v2 I2 _ hI2 ⟨rfl, hc⟩
   have hc0 := hc
   obtain ⟨ac, cc, rfl⟩ := hc.sl
   refine jW ?_
   replace ha := ha.mono hI2
   have hJ2 := (hJ1).trans hI2
   refine jC (j9 [1, 2, 2] ((hJ2)) rfl (j5 7 rfl (WL.buildSlice (by with_unfolding_all exact rfl) rfl (by with_unfolding_all exact rfl) rfl (fun _ => ?_))))
   rename_i gl
   refine jW ?_
   refine WL.lit (R := Nd.Rp) (sz := 3) (l := [n]) (css := [[vi i, .bool true, .slice a4 n.kids.length c4]]) 5 rfl ⟨Nd.rp_mono hnd (hJ2), trivial⟩ rfl (show 1 ≤ maxLen by decide) fun I3 hI3 hb => ?_
   replace ha := ha.mono hI3
   replace hc := hc.mono hI3
   have hJ3 := (hJ2).trans hI3
   refine jC (j9 [1, 2, 2] ((hJ3)) rfl (j5 17 rfl (WL.buildSlice (by with_unfolding_all exact rfl) rfl (by with_unfolding_all exact rfl) rfl (fun _ => ?_))))
   rename_i gb
   refine jW ?_
   refine WL.lit (R := Rl) (sz := 1) (l := [(p.kids.drop 0).take (ix - 0), [n], (p.kids.drop (ix + cn)).take (p.kids.length - (ix + cn))]) (css := [[_], [_], [_]]) 5 rfl ⟨⟨_, rfl, ha⟩, ⟨_, rfl, hb⟩, ⟨_, rfl, hc⟩, trivial⟩ rfl (show 3 ≤ maxLen by decide) fun I4 hI4 hl => ?_
   have hJ4 := (hJ3).trans hI4
   refine jC (j9 [1, 2, 2] ((hJ4)) rfl (j5 18 rfl (WL.callP [] rfl rfl (rJoin _ _ _ hl (by rw [hjl]; omega)) rfl ?_)))
   rintro v I5 _ hI5 ⟨rfl, hw⟩
   have hJ5 := (hJ4).trans hI5
   rw [hjl] at hw
   have hw0 := hw
   obtain ⟨aw, cw, rfl⟩ := hw.sl
   refine jW ?_
   refine jC (j9 [1, 2, 2] ((hJ5)) rfl (j5 19 rfl (WL.callP [] rfl rfl (rWith parent _ _ top (Nat.le_refl _) _ _ _ hbt hit (htv1.mono hJ5) hw) rfl ?_)))
   rintro v I6 _ hI6 ⟨rfl, kw, rfl, hr⟩
   have hJ6 := (hJ5).trans hI6
   have hr0 := hr
   obtain ⟨ar, cr, rfl⟩ := hr.sl
   refine jW ?_
   refine jC (j9 [1, 2, 2] ((hJ6)) rfl (j5 20 rfl (WL.stA 2 rfl rfl rfl rfl ?_)))
   refine jC (j9 [1, 2, 2] ((hJ6)) rfl (jT 21 rfl (Val.assignI rfl) (j6 (jA (jR ?_)))))
   have hK := hIb.trans hJ6
   refine jP [] (jr2 rfl (jcL 2 rfl rfl rfl) (jtI rfl)) ?_
   rw [hwr]
   exact ⟨rfl, _, rfl, hr⟩
 ·skip
  refine WL.buildSlice (by with_unfolding_all exact rfl) rfl (by with_unfolding_all exact rfl) rfl (fun _ => ?_)
  rename_i gl
  refine jW ?_
  refine WL.lit (R := Nd.Rp) (sz := 3) (l := [n]) (css := [[vi i, .bool true, .slice a4 n.kids.length c4]]) 5 rfl ⟨Nd.rp_mono hnd ((Mem.le.refl _)), trivial⟩ rfl (show 1 ≤ maxLen by decide) fun I1 hI1 hb => ?_
  have hJ1 := ((Mem.le.refl _)).trans hI1
  refine jC (j9 [1, 2, 2] ((hJ1)) rfl (j5 5 rfl (WL.callP [] rfl rfl (rPart p.kids _ 0 ix _ (hpk1.mono hJ1) (by omega) (by omega) (by omega)) rfl ?_)))
  rintro v2 I2 _ hI2 ⟨rfl, ha⟩
  have ha0 := ha
  obtain ⟨aa, ca, rfl⟩ := ha.sl
  refine jW ?_
  replace hb := hb.mono hI2
  have hJ2 := (hJ1).trans hI2
  refine jC (j9 [1, 2, 2] ((hJ2)) rfl (j5 16 rfl (WL.callP [] rfl rfl (rPart p.kids _ (ix + cn) p.kids.length _ (hpk1.mono hJ2) (by omega) (by omega) (by omega)) rfl ?_)))
  rintro v3 I3 _ hI3 ⟨rfl, hc⟩
  have hc0 := hc
  obtain ⟨ac, cc, rfl⟩ := hc.sl
  refine jW ?_
  replace ha := ha.mono hI3
  replace hb := hb.mono hI3
  have hJ3 := (hJ2).trans hI3
  refine jC (j9 [1, 2, 2] ((hJ3)) rfl (j5 17 rfl (WL.buildSlice (by with_unfolding_all exact rfl) rfl (by with_unfolding_all exact rfl) rfl (fun _ => ?_))))
  rename_i gb
  refine jW ?_
  refine WL.lit (R := Rl) (sz := 1) (l := [(p.kids.drop 0).take (ix - 0), [n], (p.kids.drop (ix + cn)).take (p.kids.length - (ix + cn))]) (css := [[_], [_], [_]]) 5 rfl ⟨⟨_, rfl, ha⟩, ⟨_, rfl, hb⟩, ⟨_, rfl, hc⟩, trivial⟩ rfl (show 3 ≤ maxLen by decide) fun I4 hI4 hl => ?_
  have hJ4 := (hJ3).trans hI4
  refine jC (j9 [1, 2, 2] ((hJ4)) rfl (j5 18 rfl (WL.callP [] rfl rfl (rJoin _ _ _ hl (by rw [hjl]; omega)) rfl ?_)))
  rintro v I5 _ hI5 ⟨rfl, hw⟩
  have hJ5 := (hJ4).trans hI5
  rw [hjl] at hw
  have hw0 := hw
  obtain ⟨aw, cw, rfl⟩ := hw.sl
  refine jW ?_
  refine jC (j9 [1, 2, 2] ((hJ5)) rfl (j5 19 rfl (WL.callP [] rfl rfl (rWith parent _ _ top (Nat.le_refl _) _ _ _ hbt hit (htv1.mono hJ5) hw) rfl ?_)))
  rintro v I6 _ hI6 ⟨rfl, kw, rfl, hr⟩
  have hJ6 := (hJ5).trans hI6
  have hr0 := hr
  obtain ⟨ar, cr, rfl⟩ := hr.sl
  refine jW ?_
  refine jC (j9 [1, 2, 2] ((hJ6)) rfl (j5 20 rfl (WL.stA 2 rfl rfl rfl rfl ?_)))
  refine jC (j9 [1, 2, 2] ((hJ6)) rfl (jT 21 rfl (Val.assignI rfl) (j6 (jA (jR ?_)))))
  have hK := hIb.trans hJ6
  refine jP [] (jr2 rfl (jcL 2 rfl rfl rfl) (jtI rfl)) ?_
  rw [hwr]
  exact ⟨rfl, _, rfl, hr⟩
end Go.Proofs.YtggcpoleklcmkaaGreatDoor

namespace Go.Tr
open Go.Sl Go.Ls
namespace Nd
def unwrap (top : Nd) (i : Int) : Nd × Int × Int × Int × Int :=
 if (remove top i).2.2.2.2 ≠ 0 then (top, 0, 0, 0, (remove top i).2.2.2.2)
 else if (remove top i).2.1.grp = false then (top, 0, 0, 0, 33)
 else (with_ (remove top i).2.2.1 (((find (remove top i).2.2.1 top).getD zero).kids.take (remove top i).2.2.2.1.toNat ++ ((remove top i).2.1.kids ++ ((find (remove top i).2.2.1 top).getD zero).kids.drop ((remove top i).2.2.2.1.toNat + 1))) top, (remove top i).2.2.1, (remove top i).2.2.2.1, (remove top i).2.1.kids.length, 0)
theorem remove_ok (top : Nd) (i : Int) (h : Has top i) (h0 : (remove top i).2.2.2.2 = 0) : ∃ k : Nat, ∃ p, (remove top i).2.2.2.1 = (k : Int) ∧ find (remove top i).2.2.1 top = some p ∧ k < p.kids.length := by
 by_cases hi : i = 0
 ·rw [remove, if_pos hi] at h0; exact absurd h0 (by show ¬ (30 : Int) = 0; decide)
 cases hf : find i top with
 | none => rw [remove, if_neg hi, hf] at h0; exact absurd h0 (by show ¬ (31 : Int) = 0; decide)
 | some n =>
  obtain ⟨q, k, m, h1, h2, h3⟩ := h hi n hf
  have hr : remove top i = (with_ q (m.kids.take k ++ m.kids.drop (k + 1)) top, n, q, (k : Int), 0) := by
   rw [remove, if_neg hi, hf]
   simp only [h1, h2, Int.toNat_natCast]
  rw [hr]
  exact ⟨k, m, rfl, h2, h3⟩
end Nd
end Go.Tr
namespace Go.Proofs.YtggcpoleklcmkaaGreatDoor
open Go.Sl Go.Ls Go.Tr
attribute [local irreducible] WC WL WX WK WA WAK Val Ctr RunRes ResIs Rd At sl box pt Exit.then Exit.inBlock bodyPost Code.wp wpList
def RetU (r : Nd × Int × Int × Int × Int) : Value → Mem → List HP → Prop := fun v I' L' => L' = [] ∧ ∃ kv, v = .tuple #[.agg #[vi r.1.id, .bool r.1.grp, kv], vi r.2.1, vi r.2.2.1, vi r.2.2.2.1, vi r.2.2.2.2] ∧ LsAt Nd.Rp I' r.1.kids kv
theorem rUnwrap (top : Nd) (tv : Value) (i : Int) (I : Mem) (hbt : top.size ≤ 1000000000) (hit : I64 top.id) (htv : LsAt Nd.Rp I top.kids tv) (hhas : Nd.Has top i) :
  Ctr Tryz.prog 106 [.agg #[vi top.id, .bool top.grp, tv], vi i] I [] (RetU (Nd.unwrap top i)) := by
 have hmv : ∀ x, Nd.remove top i = x → Nd.unwrap top i = if x.2.2.2.2 ≠ 0 then (top, 0, 0, 0, x.2.2.2.2)
   else if x.2.1.grp = false then (top, 0, 0, 0, 33)
   else (Nd.with_ x.2.2.1 (((Nd.find x.2.2.1 top).getD Nd.zero).kids.take x.2.2.2.1.toNat ++ (x.2.1.kids ++ ((Nd.find x.2.2.1 top).getD Nd.zero).kids.drop (x.2.2.2.1.toNat + 1))) top, x.2.2.1, x.2.2.2.1, (x.2.1.kids.length : Int), 0) := by
  intro x hx
  subst hx
  rfl
 have hrs := Nd.remove_size top i
 have hok := Nd.remove_ok top i hhas
 have hri := Nd.remove_id top i
 replace hbt : top.size ≤ 1099511627776 ∧ top.size ≤ 1000000000 := ⟨by omega, hbt⟩
 obtain ⟨hbt, hbt1⟩ := hbt
 have htv0 := htv
 obtain ⟨a9, c9, rfl⟩ := htv.sl
 have hcall := rRemove top _ i I hbt1 hit htv hhas
 generalize hx : Nd.remove top i = x at *
 have hmv := hmv x rfl
 obtain ⟨wo, n, q, k0, e⟩ := x
 simp only at hmv hrs hri hok
 have hcall : Ctr Tryz.prog 103 [.agg #[vi top.id, .bool top.grp, .slice a9 top.kids.length c9], vi i] I [] (fun v I' L' => L' = [] ∧ ∃ kv kw, v = .tuple #[.agg #[vi wo.id, .bool wo.grp, kv], .agg #[vi n.id, .bool n.grp, kw], vi q, vi k0, vi e] ∧ LsAt Nd.Rp I' wo.kids kv ∧ LsAt Nd.Rp I' n.kids kw ∧ I64 n.id) := hcall
 have hsn := sizes_lt n
 have hnn := Nd.len_le_sizes n.kids
 refine Ctr.intro Tryz.func106 rfl rfl rfl fun E F => ?_
 refine jS (WL.boxA rfl rfl (fun _ => ?_))
 refine jW ?_
 refine WL.alloc rfl (fun _ => ?_)
 refine jW ?_
 refine jf rfl (jf rfl (jf rfl (jf rfl (jN (jm (jt 1 rfl rfl rfl) (ja rfl (WL.callP [] rfl rfl hcall rfl ?_)))))))
 rintro v Ib _ hIb ⟨rfl, wv, nv, rfl, hwk, hnk, hin⟩
 have hwk0 := hwk
 have hnk0 := hnk
 obtain ⟨a8, c8, rfl⟩ := hwk.sl
 obtain ⟨a4, c4, rfl⟩ := hnk.sl
 have htv1 := htv.mono hIb
 by_cases he : e = 0
 case neg =>
  rw [if_pos he] at hmv
  refine jW ?_
  refine je rfl (jm (Val.extractA rfl rfl) (jm (Val.extractA rfl rfl) (jm (jq rfl rfl) (jm (jq rfl rfl) (jm (jq rfl rfl) (WL.alloc rfl (fun _ => ?_)))))))
  refine jW ?_
  refine WL.alloc rfl (fun _ => ?_)
  refine jW ?_
  refine WL.stA 3 rfl rfl rfl rfl ?_
  refine WL.stA 4 rfl rfl rfl rfl ?_
  refine jf rfl (jf rfl (jf rfl (jM (jB (jS (ja rfl (jJ rfl rfl (jM (jF (jS (jm (jt 1 rfl rfl rfl) (ja rfl (WL.stA 2 rfl rfl rfl rfl ?_)))))))))))))
  refine jf rfl (jf rfl (jf rfl (jf rfl (jM (jR (jU ?_))))))
  refine jP [] (RunRes.r5 rfl (jcL 2 rfl rfl rfl) (jtI rfl) (jtI rfl) (jtI rfl) (jtI rfl)) ?_
  rw [hmv]
  exact ⟨rfl, _, rfl, htv1⟩
 subst he
 rw [if_neg (by decide)] at hmv
 cases hg : n.grp
 ·skip
  refine jW ?_
  refine je rfl (jm (Val.extractA rfl rfl) (jm (Val.extractA rfl rfl) (jm (jq rfl rfl) (jm (jq rfl rfl) (jm (jq rfl rfl) (WL.alloc rfl (fun _ => ?_)))))))
  refine jW ?_
  refine WL.alloc rfl (fun _ => ?_)
  refine jW ?_
  refine WL.stA 3 rfl rfl rfl rfl ?_
  refine WL.stA 4 rfl rfl rfl rfl ?_
  refine jf rfl (jf rfl (jf rfl (jM (jB (jS (ja rfl (jz rfl rfl (jM (jE (jV (jA (jB (jS (jm (jn rfl) (jm (jp 4 rfl rfl rfl) (jl rfl (jM (jF (jS (jm (jt 1 rfl rfl rfl) (WL.stA 2 rfl rfl rfl rfl ?_)))))))))))))))))))))
  refine jf rfl (jf rfl (jf rfl (jf rfl (jM (jR (jU ?_))))))
  refine jP [] (RunRes.r5 rfl (jcL 2 rfl rfl rfl) (jtI rfl) (jtI rfl) (jtI rfl) (jtI rfl)) ?_
  rw [hmv, if_pos hg]
  exact ⟨rfl, _, rfl, htv1⟩
 rw [hg, if_neg (by decide)] at hmv
 obtain ⟨k, p, rfl, hfp, hkp⟩ := hok rfl
 rw [hfp] at hmv
 simp only [Option.getD_some, Int.toNat_natCast] at hmv
 refine jW ?_
 refine je rfl (jm (Val.extractA rfl rfl) (jm (Val.extractA rfl rfl) (jm (jq rfl rfl) (jm (jq rfl rfl) (jm (jq rfl rfl) (WL.alloc rfl (fun _ => ?_)))))))
 refine jW ?_
 refine WL.alloc rfl (fun _ => ?_)
 refine jW ?_
 refine WL.stA 3 rfl rfl rfl rfl ?_
 refine WL.stA 4 rfl rfl rfl rfl ?_
 refine jf rfl (jf rfl (jf rfl (jM (jB (jS (ja rfl (jz rfl rfl (jM (jE (jV (jA (jB (jS (jm (jn rfl) (jm (jp 4 rfl rfl rfl) (jl rfl (jM (jE (jV (jK (jm (jt 1 rfl rfl rfl) (ja rfl (WL.callS rfl rfl (rFind q _ top (Nat.le_refl _) _ _ hbt hit htv1) rfl ?_)))))))))))))))))))))))
 rintro _ (⟨p', pv, hp, rfl, hip, hpk⟩ | ⟨hp, rfl⟩)
 case inr => rw [hfp] at hp; cases hp
 rw [hfp] at hp
 injection hp with hp
 subst hp
 have hpk0 := hpk
 have hpl := hpk.le
 obtain ⟨a3, c3, rfl⟩ := hpk.sl
 have hps := Nd.find_size q top p hfp
 have hpz := sizes_lt p
 have hpn := Nd.len_le_sizes p.kids
 have hjl : [(p.kids.drop 0).take (k - 0), n.kids, (p.kids.drop (k + 1)).take (p.kids.length - (k + 1))].flatten = p.kids.take k ++ (n.kids ++ p.kids.drop (k + 1)) := by
  simp only [List.flatten_cons, List.flatten_nil, List.append_nil, List.drop_zero, Nat.sub_zero]
  rw [List.take_of_length_le (l := p.kids.drop (k + 1)) (by rw [List.length_drop]; omega)]
 have hln : (p.kids.take k ++ (n.kids ++ p.kids.drop (k + 1))).length ≤ p.kids.length + n.kids.length := by
  rw [List.length_append, List.length_append, List.length_take, List.length_drop]; omega
 refine je rfl (jm (Val.extractA rfl rfl) (jm (Val.extractB rfl rfl) (WL.alloc rfl (fun _ => ?_))))
 refine jW ?_
 refine WL.stA 5 rfl rfl rfl rfl ?_
 refine jg rfl (jM (jB (j8 999 [1, 3, 3] rfl (jT 0 rfl (jt 0 rfl rfl rfl) (jT 1 rfl (Val.moveI rfl) (jT 2 rfl (jn rfl) (jT 3 rfl (jp 2 rfl rfl rfl) (jT 4 rfl (Val.moveI rfl) (jT 6 rfl (jn rfl) (jT 7 rfl (jp 1 rfl rfl rfl) (jT 8 rfl (jn rfl) (jT 9 rfl (jp 2 rfl rfl rfl) (jT 10 rfl (Val.moveI rfl) (jT 11 rfl (Val.add rfl rfl (wrap_i64 (by omega) (by omega))) ?_))))))))))))))
 refine jT 12 rfl (jn rfl) (jT 13 rfl (jp 2 rfl rfl rfl) (jT 14 rfl (jo rfl) (jT 19 rfl (Val.moveI rfl) (jT 20 rfl (Val.moveI rfl) (jT 21 rfl (jn rfl) (jT 22 rfl (jp 1 rfl rfl rfl) (jT 23 rfl (jo rfl) (j5 5 rfl (WL.callP [] rfl rfl (rPart p.kids _ 0 k _ hpk (by omega) (by omega) (by omega)) rfl ?_)))))))))
 rintro v1 I1 _ hI1 ⟨rfl, ha⟩
 have ha0 := ha
 obtain ⟨aa, ca, rfl⟩ := ha.sl
 refine jW ?_
 refine jC (j9 [1, 3, 3] (hI1) rfl (j5 15 rfl (WL.callP [] rfl rfl (rPart p.kids _ (k + 1) p.kids.length _ (hpk.mono hI1) (by omega) (by omega) (by omega)) rfl ?_)))
 rintro v2 I2 _ hI2 ⟨rfl, hc⟩
 have hc0 := hc
 obtain ⟨ac, cc, rfl⟩ := hc.sl
 refine jW ?_
 have hJ2 := hI1.trans hI2
 refine jC (j9 [1, 3, 3] (hJ2) rfl ?_)
 replace ha := ha.mono hI2
 refine j5 16 rfl (WL.buildSlice (by with_unfolding_all exact rfl) rfl (by with_unfolding_all exact rfl) rfl (fun _ => ?_))
 rename_i gb
 refine jW ?_
 refine WL.lit (R := Rl) (sz := 1) (l := [(p.kids.drop 0).take (k - 0), n.kids, (p.kids.drop (k + 1)).take (p.kids.length - (k + 1))]) (css := [[_], [_], [_]]) 6 rfl ⟨⟨_, rfl, ha⟩, ⟨_, rfl, hnk.mono hJ2⟩, ⟨_, rfl, hc⟩, trivial⟩ rfl (show 3 ≤ maxLen by decide) fun I3 hI3 hl => ?_
 have hJ3 := hJ2.trans hI3
 refine jC (j9 [1, 3, 3] (hJ3) rfl (j5 17 rfl (WL.callP [] rfl rfl (rJoin _ _ _ hl (by rw [hjl]; omega)) rfl ?_)))
 rintro v4 I4 _ hI4 ⟨rfl, hw⟩
 have hJ4 := hJ3.trans hI4
 rw [hjl] at hw
 have hw0 := hw
 obtain ⟨aw, cw, rfl⟩ := hw.sl
 refine jW ?_
 refine jC (j9 [1, 3, 3] (hJ4) rfl (j5 18 rfl (WL.callP [] rfl rfl (rWith q _ _ top (Nat.le_refl _) _ _ _ hbt hit (htv1.mono hJ4) hw) rfl ?_)))
 rintro v5 I5 _ hI5 ⟨rfl, kw, rfl, hr⟩
 have hJ5 := hJ4.trans hI5
 have hr0 := hr
 obtain ⟨ar, cr, rfl⟩ := hr.sl
 refine jW ?_
 refine jC (j9 [1, 3, 3] (hJ5) rfl (j5 24 rfl (WL.stA 2 rfl rfl rfl rfl ?_)))
 refine jC (j9 [1, 3, 3] (hJ5) rfl (jT 25 rfl (Val.assignI rfl) (jT 26 rfl (Val.assignI rfl) (jT 27 rfl (Val.assignI rfl) (jT 28 rfl (Val.assignI rfl) (j6 (jA (jR ?_))))))))
 have hK := hIb.trans hJ5
 refine jP [] (RunRes.r5 rfl (jcL 2 rfl rfl rfl) (jtI rfl) (jtI rfl) (jtI rfl) (jtI rfl)) ?_
 rw [hmv]
 exact ⟨rfl, _, rfl, hr⟩
end Go.Proofs.YtggcpoleklcmkaaGreatDoor

namespace Go.Tr
open Go.Sl Go.Ls
end Go.Tr
namespace Go.Proofs.YtggcpoleklcmkaaGreatDoor
open Go.Sl Go.Ls Go.Tr
attribute [local irreducible] WC WL WX WK WA WAK Val Ctr RunRes ResIs Rd At sl box pt Exit.then Exit.inBlock bodyPost Code.wp wpList
end Go.Proofs.YtggcpoleklcmkaaGreatDoor

namespace Go.Tr
open Go.Sl Go.Ls
end Go.Tr
namespace Go.Proofs.YtggcpoleklcmkaaGreatDoor
open Go.Sl Go.Ls Go.Tr
attribute [local irreducible] WC WL WX WK WA WAK Val Ctr RunRes ResIs Rd At sl box pt Exit.then Exit.inBlock bodyPost Code.wp wpList
end Go.Proofs.YtggcpoleklcmkaaGreatDoor

namespace Go.Tr
open Go.Sl Go.Ls
structure Cel where
 id : Int
 grp : Bool
 par : Int
 kids : List Int
 kv : Value
structure Ar where
 b : Nat
 mb : Nat
 cg : Nat
 cc : Nat
 cells : List Cel
 fv : Value
 free : List Int
 at_ : Int → Option Int
 cnt : Nat
def Cel.cs (c : Cel) : List Value := [vi c.id, .bool c.grp, vi c.par, c.kv]
def Cel.row (c : Cel) : HP := sl 3 1 c.kv c.kids.length (c.kids.map vi)
def Ar.flat (A : Ar) : List Value := (A.cells.map Cel.cs).flatten
def Ar.look (A : Ar) : Int → Option Value := fun k => (A.at_ k).map vi
abbrev Ar.cv (A : Ar) : Value := .slice (some ⟨A.cg, 0, none⟩) A.cells.length A.cc
abbrev Ar.hp (A : Ar) : List HP := [box A.b 145 [A.cv, A.fv, .map (some A.mb)], sl 191 4 A.cv A.cells.length A.flat, sl 3 1 A.fv A.free.length (A.free.map vi), mp A.mb A.look A.cnt, sts (A.cells.map Cel.row)]
abbrev Ar.on (A : Ar) (L : List HP) : List HP := box A.b 145 [A.cv, A.fv, .map (some A.mb)] :: sl 191 4 A.cv A.cells.length A.flat :: sl 3 1 A.fv A.free.length (A.free.map vi) :: mp A.mb A.look A.cnt :: sts (A.cells.map Cel.row) :: L
theorem Ar.at {A : Ar} {i : Nat} (hi : i < A.cells.length) (f : Nat) (hf : f < 4) : A.flat[0 + ((i : Nat) : Int).toNat * 4 + f]? = (A.cells[i]).cs[f]? := by
 have h : ∀ c ∈ A.cells.map Cel.cs, c.length = 4 := fun c hc => by
  obtain ⟨x, _, rfl⟩ := List.mem_map.1 hc; rfl
 rw [Nat.zero_add, Int.toNat_natCast, Ar.flat, flat_at (by decide) _ h i f hf]
 simp [hi]
theorem Ar.c0 {A : Ar} {i : Nat} (hi : i < A.cells.length) : A.flat[0 + ((i : Nat) : Int).toNat * 4]? = some (vi (A.cells[i]).id) := Ar.at hi 0 (by decide)
theorem Ar.c1 {A : Ar} {i : Nat} (hi : i < A.cells.length) : A.flat[0 + ((i : Nat) : Int).toNat * 4 + 1]? = some (.bool (A.cells[i]).grp) := Ar.at hi 1 (by decide)
theorem Ar.c2 {A : Ar} {i : Nat} (hi : i < A.cells.length) : A.flat[0 + ((i : Nat) : Int).toNat * 4 + 2]? = some (vi (A.cells[i]).par) := Ar.at hi 2 (by decide)
theorem Ar.c3 {A : Ar} {i : Nat} (hi : i < A.cells.length) : A.flat[0 + ((i : Nat) : Int).toNat * 4 + 3]? = some (A.cells[i]).kv := Ar.at hi 3 (by decide)
end Go.Tr
namespace Go.Proofs.YtggcpoleklcmkaaGreatDoor
open Go.Sl Go.Ls Go.Tr
instance : MapK Tryz.prog 143 (vi 0) := ⟨by kernel_rfl⟩
attribute [local irreducible] WC WL WX WK WA WAK Val Ctr RunRes ResIs Rd At sl box pt Exit.then Exit.inBlock bodyPost Code.wp wpList
theorem tFind (A : Ar) (i : Int) (I : Mem) :
  Ctr Tryz.prog 78 [ptr A.b, vi i] I A.hp (Keep I A.hp fun v => v = .tuple #[vi ((A.at_ i).getD 0), .bool (A.at_ i).isSome]) := by
 refine Ctr.intro Tryz.func78 rfl rfl rfl fun E F => ?_
 refine jS (jf rfl (jg rfl (jN (jd rfl (jm (jr rfl) (jm (jn rfl) (jm (jp 1 rfl rfl rfl) (ja rfl (jm (Val.lookup2 4 rfl rfl rfl) ?_)))))))))
 have he : ((A.look i).getD (vi 0) = vi ((A.at_ i).getD 0)) ∧ (A.look i).isSome = (A.at_ i).isSome := by
  unfold Ar.look
  cases A.at_ i <;> exact ⟨rfl, rfl⟩
 rw [he.1, he.2]
 refine je rfl (jm (jq rfl rfl) (jm (Val.extractB rfl rfl) (jf rfl (jg rfl (jN (ja rfl (jb rfl (jf rfl (jg rfl (jM (jR ?_)))))))))))
 exact jP [0, 0, 0, 0, 0] (jr2 rfl (jtI rfl) (jtB rfl)) ⟨rfl, rfl, rfl⟩
end Go.Proofs.YtggcpoleklcmkaaGreatDoor

namespace Go.Tr
open Go.Sl Go.Ls
structure Ar.Ok (A : Ar) : Prop where
 len : A.cells.length ≤ 1000000000
 at_lt : ∀ i p, A.at_ i = some p → ∃ n : Nat, p = n ∧ n < A.cells.length
 par : ∀ c ∈ A.cells, I64 c.par
 id : ∀ c ∈ A.cells, I64 c.id
 kidl : ∀ c ∈ A.cells, c.kids.length ≤ 1000000000
inductive Ch (A : Ar) : Nat → List Nat → Prop where
 | top {i : Nat} (hi : i < A.cells.length) (h : (A.cells[i]).par < 0) : Ch A i [i]
 | up {i p : Nat} {l : List Nat} (hi : i < A.cells.length) (h : (A.cells[i]).par = (p : Int)) (hl : Ch A p l) : Ch A i (i :: l)
def Ar.grp (A : Ar) (i : Int) : Int × Int :=
 match A.at_ i with
 | none => (0, 31)
 | some p => if ((A.cells[p.toNat]?).map Cel.grp).getD false then (p, 0) else (0, 33)
end Go.Tr
namespace Go.Proofs.YtggcpoleklcmkaaGreatDoor
open Go.Sl Go.Ls Go.Tr
attribute [local irreducible] WC WL WX WK WA WAK Val Ctr RunRes ResIs Rd At sl box pt Exit.then Exit.inBlock bodyPost Code.wp wpList
theorem tCount (A : Ar) (I : Mem) (hc : A.cnt ≤ 1000000000) :
  Ctr Tryz.prog 30 [ptr A.b] I A.hp (Keep I A.hp fun v => v = vi ((A.cnt : Int) - 1)) := by
 refine Ctr.intro Tryz.func30 rfl rfl rfl fun E F => ?_
 refine jS (jf rfl (jN (jd rfl (jm (jr rfl) (jm (jn rfl) (jm (jp 1 rfl rfl rfl) (jm (Val.lenMap 4 rfl rfl) ?_)))))))
 refine jm (Val.sub rfl rfl (wrap_i64 (by omega) (by omega))) ?_
 refine jf rfl (jM (jR ?_))
 exact jP [0, 0, 0, 0, 0] (jr1 rfl (jtI rfl)) ⟨rfl, rfl, rfl⟩
theorem tGroup (A : Ar) (i : Int) (I : Mem) (hA : A.Ok) :
  Ctr Tryz.prog 140 [ptr A.b, vi i] I A.hp (Keep I A.hp fun v => v = .tuple #[vi (A.grp i).1, vi (A.grp i).2]) := by
 refine Ctr.intro Tryz.func140 rfl rfl rfl fun E F => ?_
 refine jS (jf rfl (jf rfl (jN (jd rfl (ja rfl (WL.callK [1, 1, 1, 1, 1] rfl rfl rfl (tFind A i _) rfl ?_))))))
 rintro _ rfl
 cases hat : A.at_ i with
 | none =>
  refine je rfl (jm (jq rfl rfl) (jm (Val.extractB rfl rfl) (jf rfl (jg rfl (jM (jB (WC.block (jS (jb rfl (jl rfl (jg rfl (jM (jF (jS (jf rfl (jf rfl (jM (jR (WX.inRet (jU ?_))))))))))))))))))))
  exact jP [0, 0, 0, 0, 0] (jr2 rfl (jtI rfl) (jtI rfl)) ⟨rfl, rfl, by rw [Ar.grp, hat]⟩
 | some p =>
  obtain ⟨n, rfl, hn⟩ := hA.at_lt i p hat
  have h1 := Ar.c1 hn
  simp only [Option.getD_some, Option.isSome_some]
  cases hg : (A.cells[n]).grp
  ·rw [hg] at h1
   have hr : A.grp i = (0, 33) := by
    simp only [Ar.grp, hat, Int.toNat_natCast, List.getElem?_eq_getElem hn, Option.map_some, hg, Option.getD_some, Bool.false_eq_true, if_false]
   refine je rfl (jm (jq rfl rfl) (jm (Val.extractB rfl rfl) (jf rfl (jg rfl (jM (jB (WC.block (jS (jb rfl (jl rfl (jg rfl (jM (jE (jS (jd rfl (jm (jr rfl) (jm (jn rfl) (jm (jp 1 rfl rfl rfl) (ja rfl (jm (jZ rfl rfl) (jm (jn rfl) (jm (Val.loadS rfl (Rd.sl1 2 rfl (by assumption))) ?_))))))))))))))))))))))
   refine jl rfl (jg rfl (jM (jF (jS (jf rfl (jf rfl (jM (jR (WX.inRet (jU ?_))))))))))
   exact jP [0, 0, 0, 0, 0] (jr2 rfl (jtI rfl) (jtI rfl)) ⟨rfl, rfl, by rw [hr]⟩
  ·rw [hg] at h1
   have hr : A.grp i = ((n : Int), 0) := by
    simp only [Ar.grp, hat, Int.toNat_natCast, List.getElem?_eq_getElem hn, Option.map_some, hg, Option.getD_some, if_true]
   refine je rfl (jm (jq rfl rfl) (jm (Val.extractB rfl rfl) (jf rfl (jg rfl (jM (jB (WC.block (jS (jb rfl (jl rfl (jg rfl (jM (jE (jS (jd rfl (jm (jr rfl) (jm (jn rfl) (jm (jp 1 rfl rfl rfl) (ja rfl (jm (jZ rfl rfl) (jm (jn rfl) (jm (Val.loadS rfl (Rd.sl1 2 rfl (by assumption))) ?_))))))))))))))))))))))
   refine jl rfl (jg rfl (jM (jE (jV (WX.inNormal (jK (ja rfl (jf rfl (jf rfl (jM (jR ?_)))))))))))
   exact jP [0, 0, 0, 0, 0] (jr2 rfl (jtI rfl) (jtI rfl)) ⟨rfl, rfl, by rw [hr]⟩
theorem tIsGroup (A : Ar) (i : Int) (I : Mem) (hA : A.Ok) :
  Ctr Tryz.prog 116 [ptr A.b, vi i] I A.hp (Keep I A.hp fun v => v = .bool ((A.grp i).2 == 0)) := by
 refine Ctr.intro Tryz.func116 rfl rfl rfl fun E F => ?_
 refine jS (jg rfl (jN (jd rfl (ja rfl (WL.callK [1, 1, 1, 1, 1] rfl rfl rfl (tGroup A i _ hA) rfl ?_)))))
 rintro _ rfl
 refine je rfl (jm (jq rfl rfl) (jm (jq rfl rfl) (jf rfl (jf rfl (jN (ja rfl (jm (Val.eql rfl rfl rfl) ?_)))))))
 refine jg rfl (jM (jR ?_))
 exact jP [0, 0, 0, 0, 0] (jr1 rfl (jtB rfl)) ⟨rfl, rfl, rfl⟩
theorem tInner (A : Ar) (i : Int) (I : Mem) :
  Ctr Tryz.prog 147 [ptr A.b, vi i] I A.hp (Keep I A.hp fun v => v = if i = 0 then .tuple #[vi 0, vi 30] else match A.at_ i with | none => .tuple #[vi 0, vi 31] | some p => .tuple #[vi p, vi 0]) := by
 refine Ctr.intro Tryz.func147 rfl rfl rfl fun E F => ?_
 by_cases h0 : i = 0
 ·skip
  refine jS (jf rfl (jf rfl (jM (jB (jS (ja rfl (jw rfl rfl (jM (jF (jS (jf rfl (jf rfl (jM (jR (jU ?_)))))))))))))))
  exact jP [0, 0, 0, 0, 0] (jr2 rfl (jtI rfl) (jtI rfl)) ⟨rfl, rfl, by rw [if_pos h0]⟩
 refine jS (jf rfl (jf rfl (jM (jB (jS (ja rfl (jv rfl rfl (jM (jE (jV (jK (jd rfl (ja rfl (WL.callK [1, 1, 1, 1, 1] rfl rfl rfl (tFind A i _) rfl ?_))))))))))))))
 rintro _ rfl
 cases hat : A.at_ i with
 | none =>
  refine je rfl (jm (jq rfl rfl) (jm (Val.extractB rfl rfl) (jf rfl (jg rfl (jM (jB (jS (jb rfl (jl rfl (jM (jF (jS (jf rfl (jf rfl (jM (jR (jU ?_)))))))))))))))))
  exact jP [0, 0, 0, 0, 0] (jr2 rfl (jtI rfl) (jtI rfl)) ⟨rfl, rfl, by rw [if_neg h0]⟩
 | some p =>
  simp only [Option.getD_some, Option.isSome_some]
  refine je rfl (jm (jq rfl rfl) (jm (Val.extractB rfl rfl) (jf rfl (jg rfl (jM (jB (jS (jb rfl (jl rfl (jM (jE (jV (jK (ja rfl (jf rfl (jf rfl (jM (jR ?_))))))))))))))))))
  exact jP [0, 0, 0, 0, 0] (jr2 rfl (jtI rfl) (jtI rfl)) ⟨rfl, rfl, by rw [if_neg h0]⟩
theorem tDepthP (A : Ar) (i : Nat) (l : List Nat) (I : Mem) (hA : A.Ok) (hl : Ch A i l) (hll : l.length ≤ 1000000000) :
  Ctr Tryz.prog 142 [ptr A.b, vi i] I A.hp (Keep I A.hp fun v => v = vi ((l.length : Int) - 1)) := by
 refine Ctr.intro Tryz.func142 rfl rfl rfl fun E F => ?_
 refine jS (jf rfl (jN (jf rfl (jM (jB (WC.block ?_))))))
 refine WC.loop (fun n ρ' I' L' => ∃ (j m : Nat) (r : List Nat), n = r.length ∧ Ch A j r ∧ m + r.length = l.length ∧ I' = I ∧ ρ' 0 = ptr A.b ∧ ρ' 1 = vi j ∧ ρ' 5 = vi m ∧ L' = F :: A.hp)
  l.length ⟨i, 0, l, rfl, hl, by omega, rfl, rfl, rfl, rfl, rfl⟩ ?_
 rintro n ρ' I0 L' ⟨j, m, r, rfl, hr, hm, rfl, h0, h1, h5, rfl⟩
 refine ju3 h5 h1 h0 ?_
 cases hr with
 | top hj hp =>
  have hc := Ar.c2 hj
  refine jB (jS (jd rfl (jm (jr rfl) (jm (jn rfl) (jm (jp 1 rfl rfl rfl) (ja rfl (jm (jZ rfl rfl) (jm (jn rfl) (jm (Val.loadS rfl (Rd.sl1 2 rfl (by assumption))) ?_)))))))))
  refine jm (Val.geq rfl rfl (decide_eq_false (by omega))) ?_
  refine jM (jE (WC.exit (WX.thenExit (WX.thenExit (WX.inHit (jK (ja rfl (jf rfl (jM (jR ?_))))))))))
  refine jP [0, 0, 0, 0, 0] (jr1 rfl (jtI rfl)) ?_
  refine ⟨rfl, rfl, ?_⟩
  congr 1
  simp only [List.length_cons, List.length_nil] at hm
  omega
 | up hj hp hr =>
  rename_i p r
  have hc := Ar.c2 hj
  rw [hp] at hc
  simp only [List.length_cons] at hm
  refine jB (jS (jd rfl (jm (jr rfl) (jm (jn rfl) (jm (jp 1 rfl rfl rfl) (ja rfl (jm (jZ rfl rfl) (jm (jn rfl) (jm (Val.loadS rfl (Rd.sl1 2 rfl (by assumption))) ?_)))))))))
  refine jm (Val.geq rfl rfl (decide_eq_true (by omega))) ?_
  refine jM (jF (jV (jA (jB (WC.block (jD (ja rfl (jX rfl rfl (jf rfl (jC (WX.inNormal (jA (jD (jd rfl (jm (jr rfl) (jm (jn rfl) (jm (jp 1 rfl rfl rfl) (ja rfl (jm (jZ rfl rfl) (jm (jn rfl) (jm (Val.loadS rfl (Rd.sl1 2 rfl (by assumption))) ?_)))))))))))))))))))))
  refine jf rfl (jC ?_)
  refine WX.thenK (WK.round r.length (by simp) ⟨p, m + 1, r, rfl, hr, by omega, rfl, rfl, rfl, rfl, rfl⟩)
end Go.Proofs.YtggcpoleklcmkaaGreatDoor

namespace Go.Tr
open Go.Sl Go.Ls
mutual
def Tr (A : Ar) (p : Int) : Nat → Nd → Prop
 | i, .mk j g ks => ∃ hi : i < A.cells.length, (A.cells[i]).id = j ∧ (A.cells[i]).grp = g ∧ (A.cells[i]).par = p ∧ Trs A (i : Int) (A.cells[i]).kids ks
def Trs (A : Ar) (p : Int) : List Int → List Nd → Prop
 | [], [] => True
 | k :: l, n :: ns => (∃ q : Nat, k = (q : Int) ∧ Tr A p q n) ∧ Trs A p l ns
 | [], _ :: _ => False
 | _ :: _, [] => False
end
theorem Tr.ex {A : Ar} {p : Int} {i : Nat} {nd : Nd} (h : Tr A p i nd) : ∃ hi : i < A.cells.length, (A.cells[i]).id = nd.id ∧ (A.cells[i]).grp = nd.grp ∧ (A.cells[i]).par = p ∧ Trs A (i : Int) (A.cells[i]).kids nd.kids := by
 cases nd; rw [Tr] at h; exact h
theorem Trs.len {A : Ar} {p : Int} : ∀ {l : List Int} {ns : List Nd}, Trs A p l ns → l.length = ns.length
 | [], [], _ => rfl
 | k :: l, n :: ns, h => by rw [Trs] at h; rw [List.length_cons, List.length_cons, Trs.len h.2]
 | [], _ :: _, h => by rw [Trs] at h; exact h.elim
 | _ :: _, [], h => by rw [Trs] at h; exact h.elim
theorem Trs.get {A : Ar} {p : Int} : ∀ {l : List Int} {ns : List Nd}, Trs A p l ns → ∀ (k : Nat) (h1 : k < l.length) (h2 : k < ns.length), ∃ q : Nat, l[k] = (q : Int) ∧ Tr A p q ns[k]
 | _ :: _, _ :: _, h, 0, _, _ => by rw [Trs] at h; exact h.1
 | _ :: l, _ :: ns, h, k + 1, h1, h2 => by rw [Trs] at h; exact Trs.get h.2 k (by simpa using h1) (by simpa using h2)
 | [], [], _, k, h1, _ => by simp at h1
 | [], _ :: _, h, _, _, _ => by rw [Trs] at h; exact h.elim
 | _ :: _, [], h, _, _, _ => by rw [Trs] at h; exact h.elim
theorem Ar.row {A : Ar} {i : Nat} (hi : i < A.cells.length) : (A.cells.map Cel.row)[i]? = some (sl 3 1 (A.cells[i]).kv (A.cells[i]).kids.length ((A.cells[i]).kids.map vi)) := by
 simp [hi, Cel.row]
end Go.Tr
namespace Go.Proofs.YtggcpoleklcmkaaGreatDoor
open Go.Sl Go.Ls Go.Tr
attribute [local irreducible] WC WL WX WK WA WAK Val Ctr RunRes ResIs Rd At sl box pt Exit.then Exit.inBlock bodyPost Code.wp wpList
theorem tBelow (A : Ar) (i t : Nat) (l : List Nat) (I : Mem) (hA : A.Ok) (hl : Ch A i l) :
  Ctr Tryz.prog 151 [ptr A.b, vi i, vi t] I A.hp (Keep I A.hp (EqP (t ∈ l))) := by
 refine Ctr.intro Tryz.func151 rfl rfl rfl fun E F => ?_
 refine jS (jg rfl (jM (jB (WC.block ?_))))
 refine WC.loop (fun n ρ' I' L' => ∃ (j : Int) (r : List Nat), n = r.length ∧ ((r = [] ∧ j < 0 ∧ I64 j) ∨ ∃ q : Nat, j = q ∧ Ch A q r) ∧ (t ∈ l ↔ t ∈ r) ∧ I' = I ∧ ρ' 0 = ptr A.b ∧ ρ' 1 = vi j ∧ ρ' 2 = vi t ∧ L' = F :: A.hp)
  l.length ⟨i, l, rfl, .inr ⟨i, rfl, hl⟩, Iff.rfl, rfl, rfl, rfl, rfl, rfl⟩ ?_
 rintro n ρ' I0 L' ⟨j, r, rfl, hr, hm, rfl, h0, h1, h2, rfl⟩
 refine ju3 h2 h1 h0 ?_
 rcases hr with ⟨rfl, hj, hji⟩ | ⟨q, rfl, hr⟩
 ·skip
  refine jB (jS (ja rfl (jm (Val.geq rfl rfl (decide_eq_false (by omega))) ?_)))
  refine jM (jE (WC.exit (WX.thenExit (WX.thenExit (WX.inHit (jK (jg rfl (jM (jR ?_)))))))))
  exact jP [0, 0, 0, 0, 0] (jr1 rfl (jtB rfl)) ⟨rfl, rfl, EqP.f fun h => by simpa using hm.1 h⟩
 have hq : q < A.cells.length := by cases hr <;> assumption
 have hc := Ar.c2 hq
 have hpi := hA.par _ (List.getElem_mem hq)
 by_cases hqt : q = t
 ·subst hqt
  refine jB (jS (ja rfl (jm (Val.geq rfl rfl (decide_eq_true (by omega))) ?_)))
  refine jM (jF (jV (jA (jB (WC.block (jS (ja rfl (ja rfl (jw rfl rfl (jM (jF (jS (jg rfl (jM (jR (WX.inRet (jU (jU (WX.inRet (jU ?_))))))))))))))))))))
  refine jP [0, 0, 0, 0, 0] (jr1 rfl (jtB rfl)) ?_
  refine ⟨rfl, rfl, EqP.t (hm.2 ?_)⟩
  cases hr <;> exact List.mem_cons_self
 ·cases hr with
  | top hi hp =>
   refine jB (jS (ja rfl (jm (Val.geq rfl rfl (decide_eq_true (by omega))) ?_)))
   refine jM (jF (jV (jA (jB (WC.block (jS (ja rfl (ja rfl (jv rfl rfl (jM (jE (jV (WX.inNormal (jA (jD (jd rfl (jm (jr rfl) (jm (jn rfl) (jm (jp 1 rfl rfl rfl) (ja rfl (jm (jZ rfl rfl) (jm (jn rfl) (jm (Val.loadS rfl (Rd.sl1 2 rfl (by assumption))) ?_)))))))))))))))))))))))
   refine jf rfl (jC ?_)
   refine WX.thenK (WK.round 0 (by simp) ⟨_, [], rfl, .inl ⟨rfl, hp, hpi⟩, ?_, rfl, rfl, rfl, rfl, rfl⟩)
   rw [hm]
   simp
   exact fun h => hqt h.symm
  | up hi hp hr =>
   rename_i p r
   rw [hp] at hc
   refine jB (jS (ja rfl (jm (Val.geq rfl rfl (decide_eq_true (by omega))) ?_)))
   refine jM (jF (jV (jA (jB (WC.block (jS (ja rfl (ja rfl (jv rfl rfl (jM (jE (jV (WX.inNormal (jA (jD (jd rfl (jm (jr rfl) (jm (jn rfl) (jm (jp 1 rfl rfl rfl) (ja rfl (jm (jZ rfl rfl) (jm (jn rfl) (jm (Val.loadS rfl (Rd.sl1 2 rfl (by assumption))) ?_)))))))))))))))))))))))
   refine jf rfl (jC ?_)
   refine WX.thenK (WK.round r.length (by simp) ⟨p, r, rfl, .inr ⟨p, rfl, hr⟩, ?_, rfl, rfl, rfl, rfl, rfl⟩)
   rw [hm]
   simp
   exact fun h => absurd h.symm hqt
theorem tHeight (A : Ar) (hA : A.Ok) (N : Nat) : ∀ (nd : Nd), nd.size ≤ N → ∀ (p : Int) (i : Nat) (I : Mem), nd.size ≤ 1000000000 → Tr A p i nd →
  Ctr Tryz.prog 152 [ptr A.b, vi i] I A.hp (Keep I A.hp fun v => v = vi nd.height) := by
 induction N with
 | zero => intro nd h; have := nd.size_pos; omega
 | succ N ih =>
  intro nd hs p i I hb ht
  obtain ⟨hi, hid, hgr, hpa, hks⟩ := ht.ex
  have hsz := sizes_lt nd
  have hll := Nd.len_le_sizes nd.kids
  have hlk := hks.len
  have hc := Ar.c3 hi
  have hrow := Ar.row hi
  refine Ctr.intro Tryz.func152 rfl rfl rfl fun E F => ?_
  refine WC.rowOpen 5 i rfl hrow fun aa cap hkv hg => ?_
  rw [hkv] at hc hrow
  refine jS (jf rfl (jN (jf rfl (jM (jB (jS (jd rfl (jm (jr rfl) (jm (jn rfl) (jm (jp 1 rfl rfl rfl) (ja rfl (jm (jZ rfl rfl) (jm (jn rfl) (jm (Val.loadS rfl (Rd.sl1 2 rfl (by assumption))) ?_))))))))))))))
  refine jm (jo rfl) (ja rfl (jM (WC.block ?_)))
  refine WC.loop (fun n ρ' I' L' => ∃ k : Nat, n = nd.kids.length - k ∧ k ≤ nd.kids.length ∧ I' = I ∧ ρ' 0 = ptr A.b ∧ ρ' 5 = vi (Nd.heights (nd.kids.take k) : Nat) ∧ ρ' 15 = .slice aa (A.cells[i]).kids.length cap ∧ ρ' 16 = vi (A.cells[i]).kids.length ∧ ρ' 17 = vi k ∧ L' = F :: A.hp)
   nd.kids.length ⟨0, rfl, by omega, rfl, rfl, rfl, rfl, rfl, rfl, rfl⟩ ?_
  rintro n ρ' I0 L' ⟨k, rfl, hk, rfl, h0, h5, h15, h16, h17, rfl⟩
  refine ju5 h17 h16 h15 h5 h0 ?_
  by_cases hkn : k < nd.kids.length
  ·obtain ⟨g, rfl⟩ := hg (by omega)
   obtain ⟨q, hq, htq⟩ := hks.get k (by omega) hkn
   have hv : ((A.cells[i]).kids.map vi)[0 + ((k : Nat) : Int).toNat * 1]? = some (vi q) := by
    rw [Nat.zero_add, Int.toNat_natCast, Nat.mul_one, List.getElem?_map, List.getElem?_eq_getElem (by omega), hq]; rfl
   have hbk := kid_sz hkn
   have htk : Nd.heights (nd.kids.take (k + 1)) = max (Nd.heights (nd.kids.take k)) nd.kids[k].height := by rw [take1 _ _ hkn, Nd.heights_app]; simp [Nd.heights]
   refine jS (jy rfl rfl (jM (jB (jF (jV (jA (jB (WC.block (jS (jm (jZ rfl rfl) (jm (Val.loadS rfl (Rd.row1 5 i rfl hrow hv)) ?_)))))))))))
   refine jf rfl (jM (jD (ja rfl (jd rfl (ja rfl (WL.callK [1, 1, 1, 1, 1] rfl rfl rfl (ih _ (kid_lt hs hkn) _ _ _ (by omega) htq) rfl ?_))))))
   rintro _ rfl
   refine jm (Val.maxI rfl rfl) ?_
   refine jf rfl (jC (WX.inNormal (jA (jD (jX rfl rfl (ja rfl (jC ?_)))))))
   refine WX.thenK (WK.round (nd.kids.length - (k + 1)) (by omega) ⟨k + 1, rfl, by omega, rfl, rfl, ?_, rfl, rfl, rfl, rfl⟩)
   show vi _ = vi _
   congr 1
   rw [htk]
   omega
  ·have hfin : k = nd.kids.length := by omega
   have hh : Nd.heights (nd.kids.take k) + 1 = nd.height := by
    rw [hfin, List.take_length]; cases nd; rfl
   have hhl := Nd.height_le nd
   refine jS (jx rfl rfl (jM (jB (jE (WC.exit (WX.thenExit (WX.thenExit (WX.inHit (jK (ja rfl (jX rfl rfl (jf rfl (jM (jR ?_))))))))))))))
   refine jP [0, 0, 0, 0, 0] (jr1 rfl (jtI rfl)) ?_
   refine ⟨rfl, rfl, ?_⟩
   show vi _ = vi _
   congr 1
   omega
def NdAt (n : Nd) : Value → Mem → Prop := fun v I' => ∃ kv, v = .agg #[vi n.id, .bool n.grp, kv] ∧ LsAt Nd.Rp I' n.kids kv ∧ I64 n.id
theorem tNode (A : Ar) (hA : A.Ok) (N : Nat) : ∀ (nd : Nd), nd.size ≤ N → ∀ (p : Int) (i : Nat) (I : Mem), nd.size ≤ 1000000000 → Tr A p i nd →
  Ctr Tryz.prog 79 [ptr A.b, vi i] I A.hp (KeepR A.hp (NdAt nd)) := by
 induction N with
 | zero => intro nd h; have := nd.size_pos; omega
 | succ N ih =>
  intro nd hs p i I hb ht
  obtain ⟨hi, hid, hgr, hpa, hks⟩ := ht.ex
  have hsz := sizes_lt nd
  have hll := Nd.len_le_sizes nd.kids
  have hlk := hks.len
  have hrow := Ar.row hi
  have hI64 : I64 nd.id := by rw [← hid]; exact hA.id _ (List.getElem_mem hi)
  refine Ctr.intro Tryz.func79 rfl rfl rfl fun E F => ?_
  refine WC.rowOpen 5 i rfl hrow fun aa cap hkv hg => ?_
  have hrd : ∀ j v, [vi nd.id, .bool nd.grp, vi p, .slice aa nd.kids.length cap][j]? = some v → A.flat[0 + ((i : Nat) : Int).toNat * 4 + j]? = some v := by
   intro j v hj
   have hj4 : j < 4 := by
    rcases Nat.lt_or_ge j 4 with h | h
    ·exact h
    ·rw [List.getElem?_eq_none (by simpa using h)] at hj; cases hj
   rw [Ar.at hi j hj4, ← hj]
   simp only [Cel.cs, hid, hgr, hpa, hkv, hlk]
  rw [hkv] at hrow
  refine jS (WL.alloc rfl (fun _ => ?_))
  refine jW ?_
  refine jN (jd rfl (jm (jr rfl) (jm (jn rfl) (jm (jp 1 rfl rfl rfl) (ja rfl (jm (jZ rfl rfl) (jm (Val.loadA rfl (Rd.slN 2 rfl _ [vi nd.id, .bool nd.grp, vi p, .slice aa nd.kids.length cap] hrd) rfl) ?_)))))))
  refine WL.alloc rfl (fun _ => ?_)
  refine jW ?_
  refine WL.stA 7 rfl rfl rfl rfl ?_
  refine jN (jm (jn rfl) (jm (jp 7 rfl rfl rfl) (jm (jn rfl) (jm (jp 7 rfl rfl rfl) (jm (Val.build (cs := [vi nd.id, .bool nd.grp, .slice none 0 0]) rfl) ?_)))))
  refine WL.alloc rfl (fun _ => ?_)
  refine jW ?_
  refine WL.stA 8 rfl rfl rfl rfl ?_
  refine jM (jB (jS (jm (jn rfl) (jm (jp 7 rfl rfl rfl) (jm (jo rfl) (ja rfl (jM (WC.block ?_))))))))
  rename_i g4 g5 g6
  refine WC.slNil 72 3 ?_
  refine WC.nApp ?_
  refine WC.loop (fun n ρ' I' L' => ∃ (k : Nat) (a : Option Addr) (c : Nat) (pp : HP), n = nd.kids.length - k ∧ k ≤ nd.kids.length ∧ I.le I' ∧ ρ' 0 = ptr A.b ∧ ρ' 4 = ptr g4 ∧ ρ' 6 = ptr g6 ∧ ρ' 22 = .slice aa nd.kids.length cap ∧ ρ' 23 = vi nd.kids.length ∧ ρ' 24 = vi k ∧
    L' = F :: A.on [box g4 72 [vi 0, .bool false, .slice none 0 0], box g5 191 [vi nd.id, .bool nd.grp, vi p, .slice aa nd.kids.length cap], box g6 72 [vi nd.id, .bool nd.grp, .slice a k c], pp] ∧ OwnL Nd.Rp 72 3 I' (nd.kids.take k) (.slice a k c) pp)
   nd.kids.length ⟨0, none, 0, _, rfl, by omega, Mem.le.refl _, rfl, rfl, rfl, rfl, rfl, rfl, rfl, [], rfl, trivial⟩ ?_
  rintro n ρ' I0 L' ⟨k, a, c, pp, rfl, hk, hI, h0, h4, h6, h22, h23, h24, rfl, hp⟩
  refine ju6 h24 h23 h22 h6 h4 h0 ?_
  have hwl : (nd.kids.take k).length = k := by rw [List.length_take]; omega
  by_cases hkn : k < nd.kids.length
  ·obtain ⟨g, rfl⟩ := hg (by omega)
   obtain ⟨q, hq, htq⟩ := hks.get k (by omega) hkn
   have hv : ((A.cells[i]).kids.map vi)[0 + ((k : Nat) : Int).toNat * 1]? = some (vi q) := by
    rw [Nat.zero_add, Int.toNat_natCast, Nat.mul_one, List.getElem?_map, List.getElem?_eq_getElem (by omega), hq]; rfl
   have hbk := kid_sz hkn
   have htk : nd.kids.take (k + 1) = nd.kids.take k ++ [nd.kids[k]] := take1 _ _ hkn
   refine jS (jy rfl rfl (jM (jB (jF (jV (jA (jB (WC.block (jS (jm (jZ rfl rfl) (jm (Val.loadS rfl (Rd.row1 5 i rfl hrow hv)) ?_)))))))))))
   refine jf rfl (jM (j8 8 [8] rfl (jT 0 rfl (jn rfl) (jT 1 rfl (jp 0 rfl rfl rfl) (jT 2 rfl (Val.moveP rfl) (jT 3 rfl (Val.moveI rfl) (j5 4 rfl (WL.callR [1, 1, 1, 1, 1] rfl rfl rfl (ih _ (kid_lt hs hkn) _ _ _ (by omega) htq) rfl ?_))))))))
   rintro v I2 hI2 ⟨kw, rfl, hw, hiw⟩
   have hw0 := hw
   obtain ⟨a3, c3, rfl⟩ := hw.sl
   refine jC (j9 [8] (hI2) rfl (j5 5 rfl (WL.buildSlice (by with_unfolding_all exact rfl) rfl (by with_unfolding_all exact rfl) rfl (fun _ => ?_))))
   rename_i g7
   refine jW ?_
   refine jC (j9 [8] (hI2) rfl (j5 6 rfl (WL.appOne (y := nd.kids[k]) (cs := [vi nd.kids[k].id, .bool nd.kids[k].grp, .slice a3 nd.kids[k].kids.length c3]) 9 10 rfl rfl (hp.mono hI2) rfl rfl (Nd.rep_iff.2 ⟨hiw, _, rfl, hw⟩) rfl rfl (by rfl) (by decide) (by rw [hwl]; omega) (by rw [hwl]; unfold maxLen; omega) rfl fun aa cc p' hp' => ?_)))
   refine WL.nSet ?_
   refine jC (j9 [8] (hI2) rfl (jT 7 rfl (jn rfl) (j5 8 rfl (WL.stS 8 rfl rfl rfl rfl ?_))))
   refine jC (WK.anyLast (WA.done (by kernel_rfl) (WX.inNormal (jA (jD (jX rfl rfl (ja rfl (jC ?_))))))))
   rw [hwl] at hp' ⊢
   exact WX.conv (fun w h => h.sub [0, 0, 0, 0, 0, 0, 0, 0, 0, 0] rfl) (WX.thenK (WK.round (nd.kids.length - (k + 1)) (by omega) ⟨k + 1, aa, cc, p', rfl, by omega, hI.trans hI2, rfl, rfl, rfl, rfl, rfl, rfl, rfl, by rw [htk]; exact hp'⟩))
  ·skip
   refine jS (jx rfl rfl (jM (jB (jE (WC.exit (WX.thenExit (WX.thenExit (WX.inHit (jK (jm (jt 8 rfl rfl rfl) (WL.stA 6 rfl rfl rfl rfl ?_)))))))))))
   refine jM (jR (WX.freezeL 9 rfl hp fun I2 hI2 hv => ?_))
   have hJ := hI.trans hI2
   refine jP [0, 0, 0, 0, 0] (jr1 rfl (jcL 6 rfl rfl rfl)) ?_
   have : k = nd.kids.length := by omega
   subst this
   rw [List.take_length] at hv
   exact ⟨rfl, .slice a nd.kids.length c, rfl, hv, hI64⟩
theorem tNodeI (A : Ar) (i : Int) (nd : Nd) (I : Mem) (hA : A.Ok) (hb : nd.size ≤ 1000000000) (hn : ∀ n : Nat, A.at_ i = some (n : Int) → ∃ p, Tr A p n nd) :
  Ctr Tryz.prog 29 [ptr A.b, vi i] I A.hp (KeepR A.hp fun v I' => ∃ nv, v = .tuple #[nv, .bool (A.at_ i).isSome] ∧ NdAt (if (A.at_ i).isSome then nd else Nd.zero) nv I') := by
 refine Ctr.intro Tryz.func29 rfl rfl rfl fun E F => ?_
 refine jS (WL.alloc rfl (fun _ => ?_))
 refine jW ?_
 refine jg rfl (jN (jd rfl (ja rfl (WL.callK [1, 1, 1, 1, 1] rfl rfl rfl (tFind A i _) rfl ?_))))
 rintro _ rfl
 cases hat : A.at_ i with
 | none =>
  refine je rfl (jm (jq rfl rfl) (jm (Val.extractB rfl rfl) (jf rfl (jg rfl (jM (jB (jS (jb rfl (jl rfl (jM (jF (jS (jm (Val.build0) ?_)))))))))))))
  refine WL.stA 6 rfl rfl rfl rfl ?_
  refine jg rfl (jM (jR (jU ?_)))
  exact jP [0, 0, 0, 0, 0] (jr2 rfl (jcL 6 rfl rfl rfl) (jtB rfl)) ⟨rfl, _, rfl, _, rfl, LsAt.nil _ _, i64_0⟩
 | some p =>
  obtain ⟨n, rfl, hn'⟩ := hA.at_lt i p hat
  obtain ⟨pp, ht⟩ := hn n hat
  simp only [Option.getD_some, Option.isSome_some, if_true]
  refine je rfl (jm (jq rfl rfl) (jm (Val.extractB rfl rfl) (jf rfl (jg rfl (jM (jB (jS (jb rfl (jl rfl (jM (jE (jV (jK (jd rfl (ja rfl (WL.callR [1, 1, 1, 1, 1] rfl rfl rfl (tNode A hA _ nd (Nat.le_refl _) _ _ _ hb ht) rfl ?_))))))))))))))))
  rintro v I2 hI2 ⟨kw, rfl, hw, hiw⟩
  have hw0 := hw
  obtain ⟨a3, c3, rfl⟩ := hw.sl
  refine WL.stA 6 rfl rfl rfl rfl ?_
  refine jg rfl (jM (jR ?_))
  exact jP [0, 0, 0, 0, 0] (jr2 rfl (jcL 6 rfl rfl rfl) (jtB rfl)) ⟨rfl, _, rfl, _, rfl, hw, hiw⟩
end Go.Proofs.YtggcpoleklcmkaaGreatDoor
