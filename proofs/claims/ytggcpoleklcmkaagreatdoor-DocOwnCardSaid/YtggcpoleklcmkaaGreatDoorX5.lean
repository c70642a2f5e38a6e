/-
 The library's slices: Replace at []int.
-/
import Derived.Test.YtggcpoleklcmkaaGreatDoorX2
import Derived.Test.YtggcpoleklcmkaaGreatDoorX4
import Derived.Test.YtggcpoleklcmkaaGreatDoorX3
set_option linter.unusedVariables false
set_option linter.unusedSimpArgs false
set_option maxRecDepth 100000
set_option maxHeartbeats 8000000
namespace Go.Sl
open Go.Ls
theorem rep2 {C ys zs : List Value} {i m : Nat} (hm : ys.length = m) (hC : i + m + zs.length ≤ C.length) : (splice (splice C i ys) (i + m) zs).take (i + m + zs.length) = C.take i ++ ys ++ zs := by
 subst hm
 rw [splice_cut (by rw [splice_length (by omega)]; omega), splice_cut (by omega)]
theorem rep1 {C ys zs : List Value} {i m : Nat} (hm : ys.length = m) (hC : i + m + zs.length ≤ C.length) : (splice (splice C (i + m) zs) i ys).take (i + m + zs.length) = C.take i ++ ys ++ zs := by
 subst hm
 apply List.ext_getElem?
 intro j
 rw [List.getElem?_take, splice_get (by rw [splice_length (by omega)]; omega), splice_get (by omega)]
 have hti : (C.take i).length = i := by rw [List.length_take]; omega
 by_cases h3 : j < i + ys.length + zs.length
 ·rw [if_pos h3]
  by_cases h1 : j < i
  ·rw [if_pos h1, if_pos (by omega), List.append_assoc, List.getElem?_append_left (by omega), List.getElem?_take, if_pos h1]
  ·rw [if_neg h1]
   by_cases h2 : j < i + ys.length
   ·rw [if_pos h2, List.getElem?_append_left (by rw [List.length_append]; omega), List.getElem?_append_right (by omega), hti]
   ·rw [if_neg h2, if_neg h2, if_pos h3, List.getElem?_append_right (by rw [List.length_append]; omega), List.length_append, hti]
 ·rw [if_neg h3, List.getElem?_eq_none (by simp only [List.length_append]; omega)]
end Go.Sl
namespace Go.Proofs.YtggcpoleklcmkaaGreatDoor
open Go.Sl Go.Ls Go.Tr
attribute [local irreducible] WC WL WX WK WA WAK Val Ctr RunRes ResIs Rd At sl box pt Exit.then Exit.inBlock bodyPost Code.wp wpList
theorem sReplace (xs ys : List Int) (i j : Nat) (s v : Value) (I : Mem) (hij : i ≤ j) (hj : j ≤ xs.length) (hm0 : i = j → 0 < ys.length) (hl : xs.length + ys.length ≤ 1099511627776) :
  Ctr Tryz.prog 153 [s, vi i, vi j, v] I [sl 3 1 s xs.length (xs.map vi), sl 3 1 v ys.length (ys.map vi)]
   (fun r I' L' => I' = I ∧ L' = [sl 3 1 r (i + ys.length + (xs.length - j)) ((xs.take i ++ ys ++ xs.drop j).map vi), sl 3 1 v ys.length (ys.map vi)]) := by
 refine Ctr.intro Tryz.func153 rfl rfl rfl fun E F => ?_
 refine WC.slOpen 1 rfl fun sa sc hs hsg hsc => ?_
 subst hs
 refine WC.slOpen 2 rfl fun va vc hv hvg hvc => ?_
 subst hv
 refine jS (jh rfl (jN (jc rfl (ja rfl (ja rfl (jm (Val.slice (l := i) (h := j) rfl (.some (e := (i : Int)) rfl (Int.natCast_nonneg i)) (.some (e := (j : Int)) rfl (Int.natCast_nonneg j)) hij (by omega)) ?_))))))
 by_cases hij' : i = j
 ·subst hij'
  refine jM (jB (jS (ja rfl (ja rfl (jw rfl rfl (jM (jF (jS (jc rfl (ja rfl (jc rfl (WL.callP [1, 1] rfl rfl (sInsert xs ys i (.slice sa xs.length sc) (.slice va ys.length vc) _ hj (hm0 rfl) hl) rfl ?_))))))))))))
  rintro r I2 _ hI2 ⟨rfl, rfl⟩
  refine jW ?_
  refine WL.slOpen 1 rfl fun ra rc hr => ?_
  subst hr
  refine jh rfl (jM (jR (jU ?_)))
  refine jP [0, 0] (jr1 rfl (jtS rfl)) ?_
  refine ⟨rfl, ?_⟩
  rw [show xs.length + ys.length = i + ys.length + (xs.length - i) by omega]
 obtain ⟨sg, rfl⟩ := hsg (by omega)
 have hij2 : (i : Int) ≠ j := by omega
 have hml : ((xs.drop j).map vi).length = xs.length - j := by rw [List.length_map, List.length_drop]
 have hyl : (ys.map vi).length = ys.length := by rw [List.length_map]
 by_cases hjn : j = xs.length
 ·subst hjn
  refine jM (jB (jS (ja rfl (ja rfl (jv rfl rfl (jM (jE (jV (jA (jB (jS (ja rfl (jc rfl (jm (jo rfl) (jw rfl rfl (jM (jF (jS (jc rfl (ja rfl (jm (Val.sliceTo (m := i) rfl rfl (by omega)) ?_)))))))))))))))))))))
  refine jc rfl ?_
  by_cases hlt : i + ys.length < xs.length
  ·refine WL.slOut 1 rfl fun cs k1 k2 k3 k4 => ?_
   refine WL.nSet ?_
   have hp : cs.take i = (xs.map vi).take i := by rw [← k2, List.take_take, Nat.min_eq_left (by omega)]
   refine WL.appRoomSl (ys := ys.map vi) 1 2 rfl rfl rfl rfl hyl (all_vi ys) (by omega) (by omega) rfl ?_
   refine WL.nSet ?_
   refine jh rfl (jM (jB (jS (jc rfl (jm (jo rfl) (jc rfl (jm (jo rfl) (jy rfl rfl (jM (jF (jD (jc rfl (jc rfl (jm (jo rfl) (jm (Val.sliceFrom (m := i + ys.length) rfl rfl (by omega) (by omega) (by omega)) ?_)))))))))))))))
   refine WL.clearB 1 rfl rfl rfl (by rw [splice_length (by rw [hyl]; omega)]; omega) ?_
   refine WL.nSet ?_
   refine jN (jc rfl (jh rfl (jM (jR (jU ?_)))))
   refine WX.slIn (xs := (xs.take i ++ ys).map vi) (sz := 1) (n := i + ys.length) (cap := sc) 1 rfl (by rw [splice_length (by rw [List.length_replicate, splice_length (by rw [hyl]; omega)]; omega), splice_length (by rw [hyl]; omega)]; omega) (by omega) k4 (by
    rw [splice_lo (by omega) (by rw [splice_length (by rw [hyl]; omega)]; omega), Nat.mul_one, ← hyl, splice_cut (by omega), hp, List.map_append, List.map_take]) ?_
   refine jP [0, 0] (jr1 rfl (jtS rfl)) ?_
   refine ⟨rfl, ?_⟩
   rw [Nat.sub_self, Nat.add_zero, List.drop_length, List.append_nil]
  obtain ⟨vg, rfl⟩ := hvg (by omega)
  refine WL.slOut 1 rfl fun cs k1 k2 k3 k4 => ?_
  refine WL.nSet ?_
  have hp : cs.take i = (xs.map vi).take i := by rw [← k2, List.take_take, Nat.min_eq_left (by omega)]
  refine WL.slIn (xs := (xs.map vi).take i) (sz := 1) (n := i) (cap := sc) 1 rfl (by omega) (by omega) k4 (by rw [Nat.mul_one]; exact hp) ?_
  refine WL.append 1 rfl rfl rfl (Rd.slN 2 rfl 0 (ys.map vi) (fun q u h => by rw [Nat.zero_add]; exact h)) (by rw [hyl, Nat.mul_one]) (all_vi ys) rfl (by decide) (by omega) (by omega) (by unfold maxLen; omega) rfl fun g cap => ?_
  refine WL.nSet ?_
  refine jh rfl (jM (jB (jS (jc rfl (jm (jo rfl) (jc rfl (jm (jo rfl) (jx rfl rfl (jM (jE (jV (jK (jc rfl (jh rfl (jM (jR (jU ?_)))))))))))))))))
  refine jP [0, 0] (jr1 rfl (jtS rfl)) ?_
  refine ⟨rfl, ?_⟩
  rw [Nat.sub_self, Nat.add_zero, List.drop_length, List.append_nil, List.map_append, List.map_take]
 have hjn2 : (j : Int) ≠ xs.length := by omega
 refine jM (jB (jS (ja rfl (ja rfl (jv rfl rfl (jM (jE (jV (jA (jB (jS (ja rfl (jc rfl (jm (jo rfl) (jv rfl rfl (jM (jE (jV (jA (jB (j8 999 [] rfl (jT 0 rfl (Val.moveS rfl) (jT 1 rfl (Val.moveI rfl) (jT 2 rfl (Val.sliceTo (m := i) rfl rfl (by omega)) ?_))))))))))))))))))))))))
 refine jT 3 rfl (jo rfl) (jT 4 rfl (Val.moveS rfl) (jT 5 rfl (jo rfl) (jT 6 rfl (Val.add rfl rfl (wrap_i64 (by omega) (by omega))) ?_)))
 refine jT 7 rfl (Val.moveS rfl) (jT 8 rfl (Val.moveI rfl) (jT 9 rfl (Val.sliceFrom (m := j) rfl rfl (by omega) (by omega) (by omega)) ?_))
 refine jT 10 rfl (jo rfl) (jT 11 rfl (Val.add rfl rfl (wrap_i64 (by omega) (by omega))) ?_)
 refine jT 12 rfl (Val.assignI rfl) (j6 ?_)
 by_cases hroom : sc < i + ys.length + (xs.length - j)
 ·skip
  refine jA (jB (jS (ja rfl (jc rfl (jm (Val.cap rfl) ?_)))))
  refine jO rfl rfl (jM (jF (jS (jc rfl (ja rfl (jm (Val.sliceTo (m := i) rfl rfl (by omega)) ?_))))))
  refine ja rfl (ja rfl (jm (Val.sub rfl rfl (wrap_i64 (by omega) (by omega))) ?_))
  refine WL.slOut 1 rfl fun cs k1 k2 k3 k4 => ?_
  refine WL.nSet ?_
  have hcs : ∀ q u, (xs.map vi)[q]? = some u → cs[q]? = some u := fun q u h => by
   rw [← k2, List.getElem?_take] at h
   split at h
   ·exact h
   ·cases h
  refine WL.appZeros (q := ys.length + (xs.length - j)) 1 rfl rfl (by show vi _ = vi _; congr 1; omega) (by omega) (by omega) (by omega) (by omega) rfl fun g2 cap2 hc2 hm2 => ?_
  refine jW ?_
  have hq : i + (ys.length + (xs.length - j)) = i + ys.length + (xs.length - j) := by omega
  rw [hq] at hc2 ⊢
  have hCl : (cs.take i ++ List.replicate (ys.length + (xs.length - j)) (vi 0) ++ List.replicate (cap2 - (i + ys.length + (xs.length - j))) (vi 0)).length = cap2 := by
   simp only [List.length_append, List.length_take, List.length_replicate]; omega
  have hp : (cs.take i ++ List.replicate (ys.length + (xs.length - j)) (vi 0) ++ List.replicate (cap2 - (i + ys.length + (xs.length - j))) (vi 0)).take i = (xs.map vi).take i := by
   rw [List.append_assoc, List.take_append_of_le_length (by rw [List.length_take]; omega), List.take_take, Nat.min_self, ← k2, List.take_take, Nat.min_eq_left (by omega)]
  generalize cs.take i ++ List.replicate (ys.length + (xs.length - j)) (vi 0) ++ List.replicate (cap2 - (i + ys.length + (xs.length - j))) (vi 0) = C at *
  have hfin := rep2 (C := C) (ys := ys.map vi) (zs := (xs.drop j).map vi) (i := i) hyl (by rw [hml]; omega)
  refine jh rfl (jN (jc rfl (ja rfl (jm (Val.sliceFrom (m := i) rfl rfl (by omega) (by omega) (by omega)) ?_))))
  refine jc rfl (WL.copySl (ys := ys.map vi) 3 2 rfl rfl rfl rfl hyl (by omega) (all_vi ys) (by omega) rfl ?_)
  refine WL.nSet ?_
  refine jM (jB (j8 999 [] rfl (jT 0 rfl (Val.moveS rfl) (jT 1 rfl (Val.moveI rfl) (jT 2 rfl (Val.moveS rfl) (jT 3 rfl (jo rfl) (jT 4 rfl (Val.add rfl rfl (wrap_i64 (by omega) (by omega))) ?_)))))))
  refine jT 5 rfl (Val.sliceFrom (m := i + ys.length) rfl rfl (by omega) (by omega) (by omega)) ?_
  refine jT 6 rfl (Val.moveS rfl) (jT 7 rfl (Val.moveI rfl) (jT 8 rfl (Val.sliceFrom (m := j) rfl rfl (by omega) (by omega) (by omega)) ?_))
  refine j5 9 rfl ?_
  refine WL.copyRd (ys := (xs.drop j).map vi) 3 rfl rfl rfl (Rd.own 1 rfl _ _ (fun q u h => by
   rw [List.map_drop, List.getElem?_drop] at h
   rw [Nat.zero_add, Nat.mul_one]
   exact hcs _ _ h)) (by rw [hml]; show _ = min _ _; omega) (all_vi _) (by rw [hml, splice_length (by rw [hyl]; omega)]; omega) rfl ?_
  refine WL.nSet ?_
  refine jC (j7 [] rfl (j6 (jK (jc rfl (jh rfl (jM (jR (jU ?_))))))))
  refine WX.slIn (xs := (xs.take i ++ ys ++ xs.drop j).map vi) (sz := 1) (n := i + ys.length + (xs.length - j)) (cap := cap2) 3 rfl (by rw [splice_length (by rw [hml, splice_length (by rw [hyl]; omega)]; omega), splice_length (by rw [hyl]; omega)]; omega) (by omega) hm2 (by
   rw [hml, hp] at hfin
   simp only [Nat.zero_add, Nat.mul_one, List.map_append, List.map_take]
   exact hfin) ?_
  exact jP [2, 1] (jr1 rfl (jtS rfl)) ⟨rfl, rfl⟩
 ·skip
  refine jA (jB (jS (ja rfl (jc rfl (jm (Val.cap rfl) ?_)))))
  refine jL rfl rfl (jM (jE (jV (jK (jc rfl (ja rfl (jm (Val.sliceTo (m := i + ys.length + (xs.length - j)) rfl rfl (by omega)) ?_)))))))
  by_cases hc : i + ys.length ≤ j
  ·skip
   refine jh rfl (jM (jB (jS (ja rfl (jc rfl (jm (jo rfl) (jX rfl rfl (ja rfl (jm (Val.leq rfl rfl (decide_eq_true (by omega))) ?_)))))))))
   refine jM (jF (jS (jc rfl (ja rfl (jm (Val.sliceFrom (m := i) rfl rfl (by omega) (by omega) (by omega)) ?_)))))
   refine jc rfl (WL.slOut 1 rfl fun cs k1 k2 k3 k4 => ?_)
   refine WL.nSet ?_
   have hcs : ∀ q u, (xs.map vi)[q]? = some u → cs[q]? = some u := fun q u h => by
    rw [← k2, List.getElem?_take] at h
    split at h
    ·exact h
    ·cases h
   have hp : cs.take i = (xs.map vi).take i := by rw [← k2, List.take_take, Nat.min_eq_left (by omega)]
   have hfin := rep2 (C := cs) (ys := ys.map vi) (zs := (xs.drop j).map vi) (i := i) hyl (by rw [hml]; omega)
   refine WL.copySl (ys := ys.map vi) 1 2 rfl rfl rfl rfl hyl (by omega) (all_vi ys) (by omega) rfl ?_
   refine WL.nSet ?_
   refine jM (jB (j8 999 [] rfl (jT 0 rfl (Val.moveS rfl) (jT 1 rfl (Val.moveI rfl) (jT 2 rfl (Val.moveS rfl) (jT 3 rfl (jo rfl) (jT 4 rfl (Val.add rfl rfl (wrap_i64 (by omega) (by omega))) ?_)))))))
   refine jT 5 rfl (Val.sliceFrom (m := i + ys.length) rfl rfl (by omega) (by omega) (by omega)) ?_
   refine jT 6 rfl (Val.moveS rfl) (jT 7 rfl (Val.moveI rfl) (jT 8 rfl (Val.sliceFrom (m := j) rfl rfl (by omega) (by omega) (by omega)) ?_))
   refine j5 9 rfl ?_
   refine WL.copyRd (ys := (xs.drop j).map vi) 1 rfl rfl rfl (Rd.own 1 rfl _ _ (fun q u h => by
    rw [List.map_drop, List.getElem?_drop] at h
    rw [splice_get (by omega), if_neg (by omega), if_neg (by rw [hyl]; omega), Nat.zero_add, Nat.mul_one]
    exact hcs _ _ h)) (by rw [hml]; show _ = min _ _; omega) (all_vi _) (by rw [hml, splice_length (by rw [hyl]; omega)]; omega) rfl ?_
   refine WL.nSet ?_
   refine jC (j7 [] rfl (j6 (jK (jc rfl (ja rfl (jm (Val.sliceFrom2 (m := i + ys.length + (xs.length - j)) rfl rfl (by omega) (by omega)) ?_))))))
   have hL1 : (splice cs (0 + i * 1) (ys.map vi)).length = sc := by rw [splice_length (by rw [hyl]; omega)]; omega
   have hL2 : (splice (splice cs (0 + i * 1) (ys.map vi)) (0 + (i + ys.length) * 1) ((xs.drop j).map vi)).length = sc := by rw [splice_length (by rw [hml, hL1]; omega), hL1]
   refine WL.clearB 1 rfl rfl rfl (by rw [hL2]; split <;> omega) ?_
   refine WL.nSet ?_
   refine jN (jc rfl (jh rfl (jM (jR (jU ?_)))))
   refine WX.slIn (xs := (xs.take i ++ ys ++ xs.drop j).map vi) (sz := 1) (n := i + ys.length + (xs.length - j)) (cap := sc) 1 rfl (by rw [splice_length (by rw [hL2, List.length_replicate]; split <;> omega), hL2]; omega) (by omega) k4 (by
    have hz : (splice (splice (splice cs (0 + i * 1) (ys.map vi)) (0 + (i + ys.length) * 1) ((xs.drop j).map vi)) (if sc = i + ys.length + (xs.length - j) then 0 else 0 + (i + ys.length + (xs.length - j)) * 1) (List.replicate (xs.length - (i + ys.length + (xs.length - j))) (vi 0))).take (i + ys.length + (xs.length - j)) = (splice (splice cs (0 + i * 1) (ys.map vi)) (0 + (i + ys.length) * 1) ((xs.drop j).map vi)).take (i + ys.length + (xs.length - j)) := by
     by_cases h9 : sc = i + ys.length + (xs.length - j)
     ·rw [if_pos h9, show xs.length - (i + ys.length + (xs.length - j)) = 0 by omega, List.replicate_zero, splice_nil]
     ·rw [if_neg h9, splice_lo (by omega) (by rw [hL2]; omega)]
    rw [hml, hp] at hfin
    refine Eq.trans (congrArg (fun n => List.take n _) (Nat.mul_one _)) (hz.trans ?_)
    simp only [Nat.zero_add, Nat.mul_one, List.map_append, List.map_take]
    exact hfin) ?_
   exact jP [0, 0] (jr1 rfl (jtS rfl)) ⟨rfl, rfl⟩
  obtain ⟨vg, rfl⟩ := hvg (by omega)
  refine jh rfl (jM (jB (jS (ja rfl (jc rfl (jm (jo rfl) (jX rfl rfl (ja rfl (jm (Val.leq rfl rfl (decide_eq_false (by omega))) ?_)))))))))
  refine jM (jE (jV (jA (jB (jS (jc rfl (ja rfl (jc rfl (jm (jo rfl) (jX rfl rfl (jm (Val.sliceFrom (m := i + ys.length) rfl rfl (by omega) (by omega) (by omega)) ?_)))))))))))
  refine jc rfl (WL.slOut 1 rfl fun cs k1 k2 k3 k4 => ?_)
  refine WL.nSet ?_
  refine WL.slOut 2 rfl fun ds j1 j2 j3 j4 => ?_
  refine WL.nSet ?_
  have hcs : ∀ q u, (xs.map vi)[q]? = some u → cs[q]? = some u := fun q u h => by
   rw [← k2, List.getElem?_take] at h
   split at h
   ·exact h
   ·cases h
  have hds : ∀ q u, (ys.map vi)[q]? = some u → ds[q]? = some u := fun q u h => by
   rw [← j2, List.getElem?_take] at h
   split at h
   ·exact h
   ·cases h
  have hp : cs.take i = (xs.map vi).take i := by rw [← k2, List.take_take, Nat.min_eq_left (by omega)]
  have hfin := rep1 (C := cs) (ys := ys.map vi) (zs := (xs.drop j).map vi) (i := i) hyl (by rw [hml]; omega)
  refine jm (Val.overlaps 1 2 rfl rfl rfl rfl rfl (by decide) (by omega)) ?_
  refine jl rfl (jM (jF (jB (j8 999 [] rfl (jT 0 rfl (Val.moveS rfl) (jT 1 rfl (Val.moveI rfl) (jT 2 rfl (Val.moveS rfl) (jT 3 rfl (jo rfl) (jT 4 rfl (Val.add rfl rfl (wrap_i64 (by omega) (by omega))) ?_)))))))))
  refine jT 5 rfl (Val.sliceFrom (m := i + ys.length) rfl rfl (by omega) (by omega) (by omega)) ?_
  refine jT 6 rfl (Val.moveS rfl) (jT 7 rfl (Val.moveI rfl) (jT 8 rfl (Val.sliceFrom (m := j) rfl rfl (by omega) (by omega) (by omega)) ?_))
  refine j5 9 rfl ?_
  refine WL.copyRd (ys := (xs.drop j).map vi) 1 rfl rfl rfl (Rd.own 1 rfl _ _ (fun q u h => by
   rw [List.map_drop, List.getElem?_drop] at h
   rw [Nat.zero_add, Nat.mul_one]
   exact hcs _ _ h)) (by rw [hml]; show _ = min _ _; omega) (all_vi _) (by rw [hml]; omega) rfl ?_
  refine WL.nSet ?_
  refine jC (j7 [] rfl (j6 (jK (jc rfl (ja rfl (jm (Val.sliceFrom (m := i) rfl rfl (by omega) (by omega) (by omega)) ?_))))))
  refine jc rfl (WL.copyRd (ys := ys.map vi) 1 rfl rfl rfl (Rd.own 2 rfl _ _ (fun q u h => by rw [Nat.zero_add]; exact hds _ _ h)) (by rw [hyl]; show _ = min _ _; omega) (all_vi ys) (by rw [hyl, splice_length (by rw [hml]; omega)]; omega) rfl ?_)
  refine WL.nSet ?_
  refine jN (jc rfl (jh rfl (jM (jR (jU ?_)))))
  refine WX.slIn (xs := (xs.take i ++ ys ++ xs.drop j).map vi) (sz := 1) (n := i + ys.length + (xs.length - j)) (cap := sc) 1 rfl (by rw [splice_length (by rw [hyl, splice_length (by rw [hml]; omega)]; omega), splice_length (by rw [hml]; omega)]; omega) (by omega) k4 (by
   rw [hml, hp] at hfin
   simp only [Nat.zero_add, Nat.mul_one, List.map_append, List.map_take]
   exact hfin) ?_
  refine WX.slIn (xs := ys.map vi) (sz := 1) (n := ys.length) (cap := vc) 2 rfl j1 j3 j4 j2 ?_
  exact jP [0, 0] (jr1 rfl (jtS rfl)) ⟨rfl, rfl⟩
theorem mem_take? {α : Type} {l : List α} {a : α} {n k : Nat} (h : k < n) (hk : l[k]? = some a) : a ∈ l.take n :=
 List.mem_of_getElem? (i := k) (by rw [List.getElem?_take, if_pos h]; exact hk)
theorem tIndex (A : Ar) (i p : Nat) (I : Mem) (hA : A.Ok) (hi : i < A.cells.length) (hp : (A.cells[i]).par = (p : Int)) (hpl : p < A.cells.length) :
  Ctr Tryz.prog 150 [ptr A.b, vi i] I A.hp (Keep I A.hp (PosP i (A.cells[p]).kids)) := by
 have hc := Ar.c2 hi
 rw [hp] at hc
 have hc3 := Ar.c3 hpl
 have hrow := Ar.row hpl
 have hkl := hA.kidl _ (List.getElem_mem hpl)
 refine Ctr.intro Tryz.func150 rfl rfl rfl fun E F => ?_
 refine WC.rowOpen 5 p rfl hrow fun aa cap hkv hg => ?_
 rw [hkv] at hc3 hrow
 refine jS (jf rfl (jM (jB (j8 999 [1, 1] rfl (jT 0 rfl (Val.moveP rfl) (jT 1 rfl (jr rfl) (jT 2 rfl (jn rfl) (jT 3 rfl (jp 0 rfl rfl rfl) (jT 4 rfl (Val.moveP rfl) (jT 5 rfl (jr rfl) (jT 6 rfl (jn rfl) (jT 7 rfl (jp 0 rfl rfl rfl) (jT 8 rfl (Val.moveI rfl) (jT 9 rfl (jZ rfl rfl) (jT 10 rfl (jn rfl) (jT 11 rfl (Val.loadS rfl (Rd.sl1 1 rfl hc)) ?_))))))))))))))))
 refine jT 12 rfl (jZ rfl rfl) (jT 13 rfl (jn rfl) (jT 14 rfl (Val.loadS rfl (Rd.sl1 1 rfl hc3)) ?_))
 refine jT 15 rfl (Val.moveI rfl) (j5 16 rfl (WL.callRowK 5 p rfl rfl rfl hrow (sIndex i (A.cells[p]).kids _ _ (by omega)) rfl ?_))
 rintro v (⟨k, rfl, h1, h2⟩ | ⟨rfl, h1⟩)
 ·skip
  refine jC (j7 [1, 1] rfl (jT 17 rfl (Val.assignI rfl) (j6 (jA (jR ?_)))))
  exact jP [0, 0, 0, 0, 0] (jr1 rfl (jtI rfl)) ⟨rfl, rfl, .inl ⟨k, rfl, h1, h2⟩⟩
 ·skip
  refine jC (j7 [1, 1] rfl (jT 17 rfl (Val.assignI rfl) (j6 (jA (jR ?_)))))
  exact jP [0, 0, 0, 0, 0] (jr1 rfl (jtI rfl)) ⟨rfl, rfl, .inr ⟨rfl, h1⟩⟩
theorem tWhere (A : Ar) (i : Int) (I : Mem) (hA : A.Ok) (hpar : ∀ n : Nat, A.at_ i = some (n : Int) → n ≠ 0 → ∃ (hn : n < A.cells.length) (p : Nat) (hpl : p < A.cells.length) (k : Nat), (A.cells[n]).par = (p : Int) ∧ (A.cells[p]).kids[k]? = some (n : Int) ∧ (n : Int) ∉ (A.cells[p]).kids.take k) :
  Ctr Tryz.prog 112 [ptr A.b, vi i] I A.hp (Keep I A.hp fun v =>
   (∃ (n : Nat) (hn : n < A.cells.length) (p : Nat) (hpl : p < A.cells.length) (k : Nat), A.at_ i = some (n : Int) ∧ n ≠ 0 ∧ (A.cells[n]).par = (p : Int) ∧ (A.cells[p]).kids[k]? = some (n : Int) ∧ (n : Int) ∉ (A.cells[p]).kids.take k ∧ v = .tuple #[vi (A.cells[p]).id, vi k, .bool true]) ∨ ((A.at_ i = none ∨ A.at_ i = some 0) ∧ v = .tuple #[vi 0, vi 0, .bool false])) := by
 refine Ctr.intro Tryz.func112 rfl rfl rfl fun E F => ?_
 refine jS (jf rfl (jf rfl (jg rfl (jN (jd rfl (ja rfl (WL.callK [1, 1, 1, 1, 1] rfl rfl rfl (tFind A i _) rfl ?_)))))))
 rintro _ rfl
 cases hat : A.at_ i with
 | none =>
  refine je rfl (jm (jq rfl rfl) (jm (Val.extractB rfl rfl) (jf rfl (jg rfl (jM (jB (jS (jb rfl (jl rfl (jb rfl (jH (jH (jk rfl (jM (jF (jS (jf rfl (jf rfl (jg rfl (jM (jR (jU ?_))))))))))))))))))))))
  exact jP [0, 0, 0, 0, 0] (jr3 rfl (jtI rfl) (jtI rfl) (jtB rfl)) ⟨rfl, rfl, .inr ⟨.inl rfl, rfl⟩⟩
 | some q =>
  obtain ⟨n, rfl, hn⟩ := hA.at_lt i q hat
  simp only [Option.getD_some, Option.isSome_some]
  by_cases h0 : n = 0
  ·subst h0
   refine je rfl (jm (jq rfl rfl) (jm (Val.extractB rfl rfl) (jf rfl (jg rfl (jM (jB (jS (jb rfl (jl rfl (jb rfl (jG (ja rfl (jG (jw rfl rfl (jk rfl (jM (jF (jS (jf rfl (jf rfl (jg rfl (jM (jR (jU ?_))))))))))))))))))))))))
   exact jP [0, 0, 0, 0, 0] (jr3 rfl (jtI rfl) (jtI rfl) (jtB rfl)) ⟨rfl, rfl, .inr ⟨.inr rfl, rfl⟩⟩
  obtain ⟨hn', p, hpl, k, e1, e2, e3⟩ := hpar n hat h0
  have h01 : (n : Int) ≠ 0 := by omega
  have hc := Ar.c2 hn
  rw [e1] at hc
  have hc0 := Ar.c0 hpl
  refine je rfl (jm (jq rfl rfl) (jm (Val.extractB rfl rfl) (jf rfl (jg rfl (jM (jB (jS (jb rfl (jl rfl (jb rfl (jG (ja rfl (jG (jv rfl rfl (jk rfl (jM (jE (jV (jA (jB (j8 999 [1, 1] rfl (jT 0 rfl (Val.moveP rfl) (jT 1 rfl (jr rfl) (jT 2 rfl (jn rfl) (jT 3 rfl (jp 0 rfl rfl rfl) (jT 4 rfl (Val.moveP rfl) (jT 5 rfl (jr rfl) (jT 6 rfl (jn rfl) (jT 7 rfl (jp 0 rfl rfl rfl) (jT 8 rfl (Val.moveI rfl) (jT 9 rfl (jZ rfl rfl) (jT 10 rfl (jn rfl) (jT 11 rfl (Val.loadS rfl (Rd.sl1 1 rfl hc)) ?_)))))))))))))))))))))))))))))))))
  refine jT 12 rfl (jZ rfl rfl) (jT 13 rfl (jn rfl) (jT 14 rfl (Val.loadS rfl (Rd.sl1 1 rfl hc0)) ?_))
  refine jT 15 rfl (Val.moveP rfl) (jT 16 rfl (Val.moveI rfl) (j5 17 rfl (WL.callK [1, 1, 1, 1, 1] rfl rfl rfl (tIndex A n p _ hA hn e1 hpl) rfl ?_)))
  rintro v (⟨k', rfl, h1, h2⟩ | ⟨rfl, h1⟩)
  ·have hk : k' = k := by
    rcases Nat.lt_trichotomy k' k with q | q | q
    ·exact absurd (mem_take? q h1) e3
    ·exact q
    ·exact absurd (mem_take? q e2) h2
   subst hk
   refine jC (j7 [1, 1] rfl (jT 18 rfl (Val.assignI rfl) (jT 19 rfl (Val.assignI rfl) (jT 20 rfl (Val.assignB rfl) (j6 (jA (jR ?_)))))))
   exact jP [0, 0, 0, 0, 0] (jr3 rfl (jtI rfl) (jtI rfl) (jtB rfl)) ⟨rfl, rfl, .inl ⟨n, hn, p, hpl, k', rfl, h0, e1, e2, e3, rfl⟩⟩
  ·exact absurd (List.mem_of_getElem? e2) h1
end Go.Proofs.YtggcpoleklcmkaaGreatDoor

namespace Go.Tr
open Go.Sl Go.Ls
def Ar.setKids (A : Ar) (p : Nat) (ks : List Int) (kv : Value) : Ar := { A with cells := A.cells.modify p fun c => { c with kids := ks, kv := kv } }
theorem Ar.setKids_len (A : Ar) (p : Nat) (ks : List Int) (kv : Value) : (A.setKids p ks kv).cells.length = A.cells.length := by simp [Ar.setKids]
theorem modify_set {α : Type} {l : List α} {p : Nat} (hp : p < l.length) (f : α → α) : l.modify p f = l.set p (f l[p]) := by
 apply List.ext_getElem?
 intro j
 rw [List.getElem?_modify, List.getElem?_set]
 by_cases h : p = j
 ·subst h; simp [hp]
 ·simp [h]
theorem Ar.flat_len (A : Ar) : ∀ c ∈ A.cells.map Cel.cs, c.length = 4 := fun c hc => by
 obtain ⟨x, _, rfl⟩ := List.mem_map.1 hc; rfl
theorem Ar.setKids_flat (A : Ar) (p : Nat) (ks : List Int) (kv : Value) (hp : p < A.cells.length) : (A.setKids p ks kv).flat = splice A.flat (0 + (p : Int).toNat * 4 + 3) [kv] := by
 rw [Nat.zero_add, Int.toNat_natCast, Ar.flat, Ar.flat, flat_splice (by decide) _ A.flat_len p 3 [kv] (by simpa using hp) (by simp)]
 congr 1
 rw [Ar.setKids]
 simp only [modify_set hp, List.map_set, List.getElem_map]
 rfl
theorem Ar.setKids_rows (A : Ar) (p : Nat) (ks : List Int) (kv : Value) (hp : p < A.cells.length) : (A.setKids p ks kv).cells.map Cel.row = (A.cells.map Cel.row).set p (sl 3 1 kv ks.length (ks.map vi)) := by
 rw [Ar.setKids]
 simp only [modify_set hp, List.map_set]
 rfl
theorem Ar.setKids_hp (A : Ar) (p : Nat) (ks : List Int) (kv : Value) (hp : p < A.cells.length) : (A.setKids p ks kv).hp = [box A.b 145 [A.cv, A.fv, .map (some A.mb)], sl 191 4 A.cv A.cells.length (splice A.flat (0 + (p : Int).toNat * 4 + 3) [kv]), sl 3 1 A.fv A.free.length (A.free.map vi), mp A.mb A.look A.cnt, sts ((A.cells.map Cel.row).set p (sl 3 1 kv ks.length (ks.map vi)))] := by
 have h1 := A.setKids_flat p ks kv hp
 have h2 := A.setKids_rows p ks kv hp
 have h3 := A.setKids_len p ks kv
 simp only [Ar.hp, Ar.cv, h1, h2, h3]
 rfl
end Go.Tr
namespace Go.Proofs.YtggcpoleklcmkaaGreatDoor
open Go.Sl Go.Ls Go.Tr
theorem tCut (A : Ar) (i p k : Nat) (I : Mem) (hA : A.Ok) (hi : i < A.cells.length) (hp : (A.cells[i]).par = (p : Int)) (hpl : p < A.cells.length) (e2 : (A.cells[p]).kids[k]? = some (i : Int)) (e3 : (i : Int) ∉ (A.cells[p]).kids.take k) :
  Ctr Tryz.prog 148 [ptr A.b, vi i] I A.hp (fun v I' L' => I' = I ∧ v = vi k ∧ ∃ kv, L' = (A.setKids p ((A.cells[p]).kids.take k ++ (A.cells[p]).kids.drop (k + 1)) kv).hp) := by
 have hc := Ar.c2 hi
 rw [hp] at hc
 have hc3 := Ar.c3 hpl
 have hrow := Ar.row hpl
 have hkl := hA.kidl _ (List.getElem_mem hpl)
 have hkk : k < (A.cells[p]).kids.length := (List.getElem?_eq_some_iff.1 e2).1
 refine Ctr.intro Tryz.func148 rfl rfl rfl fun E F => ?_
 refine WC.rowOpen 5 p rfl hrow fun aa cap hkv hg => ?_
 rw [hkv] at hc3 hrow
 refine jS (jf rfl (jM (jB (j8 999 [1, 1] rfl (jT 0 rfl (Val.moveP rfl) (jT 1 rfl (jr rfl) (jT 2 rfl (jn rfl) (jT 3 rfl (jp 0 rfl rfl rfl) (jT 4 rfl (Val.moveP rfl) (jT 5 rfl (jr rfl) (jT 6 rfl (jn rfl) (jT 7 rfl (jp 0 rfl rfl rfl) (jT 8 rfl (Val.moveI rfl) (jT 9 rfl (jZ rfl rfl) (jT 10 rfl (jn rfl) (jT 11 rfl (Val.loadS rfl (Rd.sl1 1 rfl hc)) ?_))))))))))))))))
 refine jT 12 rfl (jZ rfl rfl) (jT 13 rfl (Val.assignP rfl) (j6 (jK (jd rfl (jm (jr rfl) (jm (jn rfl) (jm (Val.loadS rfl (Rd.sl1 2 rfl (by assumption))) ?_)))))))
 refine ja rfl (WL.callRowK 5 p rfl rfl rfl hrow (sIndex i (A.cells[p]).kids _ _ (by omega)) rfl ?_)
 rintro v (⟨k', rfl, h1, h2⟩ | ⟨rfl, h1⟩)
 case inr => exact absurd (List.mem_of_getElem? e2) h1
 have hk : k' = k := by
  rcases Nat.lt_trichotomy k' k with q | q | q
  ·exact absurd (mem_take? q h1) e3
  ·exact q
  ·exact absurd (mem_take? q e2) h2
 subst hk
 refine jf rfl (jN (jd rfl (jd rfl (jm (jr rfl) (jm (jn rfl) (jm (Val.loadS rfl (Rd.sl1 2 rfl (by assumption))) ?_))))))
 refine ja rfl (ja rfl (jX rfl rfl ?_))
 refine WL.callRow 5 p rfl rfl rfl hrow (sDelete (A.cells[p]).kids k' (k' + 1) _ _ (by omega) (by omega) (by omega)) rfl ?_ (fun v I' L' h => ⟨_, h.2⟩)
 rintro r I2 q hI2 ⟨rfl, hq⟩
 injection hq with hq
 subst hq
 refine WL.nSet ?_
 refine WL.rowOpen 5 p rfl (List.getElem?_set_self (by simpa using hpl)) fun ra rc hr _ => ?_
 subst hr
 refine jm (jr rfl) (jm (jn rfl) (WL.storeSl 2 rfl rfl rfl rfl (by show 0 + (p : Int).toNat * 4 + 3 + 1 ≤ A.cells.length * 4; rw [Int.toNat_natCast]; omega) ?_))
 refine WL.nSet ?_
 refine jN (ja rfl (jf rfl (jM (jR ?_))))
 refine jP [0, 0, 0, 0, 0] (jr1 rfl (jtI rfl)) ?_
 refine ⟨rfl, rfl, .slice ra (k' + ((A.cells[p]).kids.length - (k' + 1))) rc, ?_⟩
 rw [Ar.setKids_hp _ _ _ _ hpl]
 have hlen : ((A.cells[p]).kids.take k' ++ (A.cells[p]).kids.drop (k' + 1)).length = k' + ((A.cells[p]).kids.length - (k' + 1)) := by
  rw [List.length_append, List.length_take, List.length_drop]; omega
 rw [hlen]
 rfl
end Go.Proofs.YtggcpoleklcmkaaGreatDoor

namespace Go.Tr
open Go.Sl Go.Ls
def rootCel : Cel := { id := 0, grp := true, par := -1, kids := [], kv := .slice none 0 0 }
def Ar.fresh (b mb cg : Nat) : Ar := { b := b, mb := mb, cg := cg, cc := 1, cells := [rootCel], fv := .slice none 0 0, free := [], at_ := fun k => if k = 0 then some 0 else none, cnt := 1 }
theorem Sat.single {E : Ev} {w : World} {I : Mem} {L : List HP} {p : HP} (h : Sat E w I (p :: L)) : Sat E w I (sts [p] :: L) := h.imp fun m hm => sts_fold (l := [p]) hm
theorem Ar.fresh_look (b mb cg : Nat) : (Ar.fresh b mb cg).look = Sl.put (fun _ => none) 0 (vi 0) := by
 funext k
 by_cases h : k = 0
 ·subst h; rfl
 ·simp [Ar.look, Ar.fresh, Sl.put, h]
end Go.Tr
namespace Go.Proofs.YtggcpoleklcmkaaGreatDoor
open Go.Sl Go.Ls Go.Tr
theorem tNew (I : Mem) : Ctr Tryz.prog 80 [] I [] (fun v I' L' => I' = I ∧ ∃ b mb cg, v = ptr b ∧ L' = (Ar.fresh b mb cg).hp) := by
 refine Ctr.intro Tryz.func80 rfl rfl rfl fun E F => ?_
 refine jS (ji rfl (jN (jm (Val.build (cs := [vi 0, .bool true, vi (-1), .slice none 0 0]) rfl) ?_)))
 refine WL.buildSlice (by with_unfolding_all exact rfl) rfl (by with_unfolding_all exact rfl) rfl (fun _ => ?_)
 refine jW ?_
 rename_i cg
 refine WL.makeMap rfl fun mb => ?_
 refine jW ?_
 refine WL.insert (i := 0) 2 rfl rfl rfl ?_
 refine WL.nSet ?_
 refine WL.val Val.move rfl ?_
 refine jm (Val.build (cs := [.slice (some ⟨cg, 0, none⟩) 1 1, .slice none 0 0, .map (some mb)]) rfl) ?_
 refine WL.boxA rfl rfl (fun _ => ?_)
 refine jW ?_
 refine ji rfl (jM (jR ?_))
 rename_i g
 have e : (Ar.fresh g mb cg).hp = [box g 145 [.slice (some ⟨cg, 0, none⟩) 1 1, .slice none 0 0, .map (some mb)], sl 191 4 (.slice (some ⟨cg, 0, none⟩) 1 1) 1 (Cel.cs rootCel), sl 3 1 (.slice none 0 0) 0 [], mp mb (Sl.put (fun _ => none) 0 (vi 0)) 1, sts [sl 3 1 (.slice none 0 0) 0 []]] := by
  simp only [Ar.hp]
  rw [Ar.fresh_look]
  rfl
 refine WX.conv (L' := F :: (Ar.fresh g mb cg).hp) (fun w h => ?_) ?_
 ·rw [e]
  have h1 : Sat E w I [F, box cg 191 (Cel.cs rootCel), mp mb (Sl.put (fun _ => none) 0 (vi 0)) 1, box g 145 [.slice (some ⟨cg, 0, none⟩) 1 1, .slice none 0 0, .map (some mb)]] := h
  have h2 := ((h1.perm (pull 1 _ _ rfl)).box_sl (n := 1) (sz := 4) rfl (by decide))
  have h3 := Sat.sl_nil (e := 3) (sz := 1) (Sat.sl_nil (e := 3) (sz := 1) h2)
  exact (Sat.single h3).sub [3, 4, 2, 1, 1, 0] rfl
 exact jP [0, 0, 0, 0, 0] (jr1 rfl (ResIs.tmpP rfl)) ⟨rfl, g, mb, cg, rfl, rfl⟩
end Go.Proofs.YtggcpoleklcmkaaGreatDoor

namespace Go.Tr
open Go.Sl Go.Ls
def zeroCel : Cel := { id := 0, grp := false, par := 0, kids := [], kv := .slice none 0 0 }
def Ar.drop1 (A : Ar) (i : Nat) (fv : Value) : Ar :=
 { A with cells := A.cells.modify i fun _ => zeroCel, fv := fv, free := A.free ++ [(i : Int)], at_ := fun k => if k = ((A.cells[i]?).map Cel.id).getD 0 then none else A.at_ k, cnt := if (A.at_ (((A.cells[i]?).map Cel.id).getD 0)).isSome then A.cnt - 1 else A.cnt }
mutual
def post (A : Ar) : Nat → Nd → List Nat
 | i, .mk _ _ ks => posts A (((A.cells[i]?).map Cel.kids).getD []) ks ++ [i]
def posts (A : Ar) : List Int → List Nd → List Nat
 | k :: l, n :: ns => post A k.toNat n ++ posts A l ns
 | [], _ => []
 | _ :: _, [] => []
end
structure Dropped (A A' : Ar) (l : List Nat) : Prop where
 b : A'.b = A.b
 mb : A'.mb = A.mb
 cg : A'.cg = A.cg
 cc : A'.cc = A.cc
 len : A'.cells.length = A.cells.length
 free : A'.free = A.free ++ l.map (fun (n : Nat) => (n : Int))
 out : ∀ j, j ∉ l → A'.cells[j]? = A.cells[j]?
 inn : ∀ j, j ∈ l → j < A.cells.length → A'.cells[j]? = some zeroCel
theorem Dropped.refl (A : Ar) : Dropped A A [] := ⟨rfl, rfl, rfl, rfl, rfl, by simp, fun _ _ => rfl, fun _ h => by simp at h⟩
theorem Dropped.one (A : Ar) (i : Nat) (fv : Value) : Dropped A (A.drop1 i fv) [i] := by
 refine ⟨rfl, rfl, rfl, rfl, by simp [Ar.drop1], rfl, fun j hj => ?_, fun j hj hl => ?_⟩
 ·have : i ≠ j := fun e => hj (by simp [e])
  simp [Ar.drop1, List.getElem?_modify, this]
 ·have : i = j := (List.mem_singleton.1 hj).symm
  subst this
  simp [Ar.drop1, List.getElem?_modify, hl]
theorem Dropped.trans {A B C : Ar} {l r : List Nat} (h : Dropped A B l) (k : Dropped B C r) : Dropped A C (l ++ r) := by
 refine ⟨k.b.trans h.b, k.mb.trans h.mb, k.cg.trans h.cg, k.cc.trans h.cc, k.len.trans h.len, by rw [k.free, h.free, List.map_append, List.append_assoc], fun j hj => ?_, fun j hj hl => ?_⟩
 ·rw [k.out j (fun h' => hj (List.mem_append.2 (.inr h'))), h.out j (fun h' => hj (List.mem_append.2 (.inl h')))]
 ·by_cases hr : j ∈ r
  ·exact k.inn j hr (by rw [h.len]; exact hl)
  ·rw [k.out j hr]
   exact h.inn j ((List.mem_append.1 hj).resolve_right hr) hl
theorem Tr.keep {A A' : Ar} (nd : Nd) : ∀ (p : Int) (i : Nat), Tr A p i nd → (∀ j ∈ post A i nd, A'.cells[j]? = A.cells[j]?) → Tr A' p i nd ∧ post A' i nd = post A i nd := by
 refine Nd.rec (motive_1 := fun nd => ∀ (p : Int) (i : Nat), Tr A p i nd → (∀ j ∈ post A i nd, A'.cells[j]? = A.cells[j]?) → Tr A' p i nd ∧ post A' i nd = post A i nd)
  (motive_2 := fun ns => ∀ (p : Int) (l : List Int), Trs A p l ns → (∀ j ∈ posts A l ns, A'.cells[j]? = A.cells[j]?) → Trs A' p l ns ∧ posts A' l ns = posts A l ns) ?_ ?_ ?_ nd
 ·intro id g ks ih p i ht hk
  rw [Tr] at ht
  obtain ⟨hi, h1, h2, h3, h4⟩ := ht
  have hii : A'.cells[i]? = A.cells[i]? := hk i (by rw [post]; simp)
  have hi' : i < A'.cells.length := by
   rcases Nat.lt_or_ge i A'.cells.length with h | h
   ·exact h
   ·rw [List.getElem?_eq_none h, List.getElem?_eq_getElem hi] at hii; cases hii
  have he : A'.cells[i] = A.cells[i] := by
   rw [List.getElem?_eq_getElem hi, List.getElem?_eq_getElem hi'] at hii; injection hii
  have hq : ((A.cells[i]?).map Cel.kids).getD [] = (A.cells[i]).kids := by rw [List.getElem?_eq_getElem hi]; rfl
  obtain ⟨h5, h6⟩ := ih (i : Int) (A.cells[i]).kids h4 (fun j hj => hk j (by rw [post, hq]; exact List.mem_append.2 (.inl hj)))
  refine ⟨?_, ?_⟩
  ·rw [Tr]; exact ⟨hi', by rw [he]; exact h1, by rw [he]; exact h2, by rw [he]; exact h3, by rw [he]; exact h5⟩
  ·rw [post, post, hii, hq, h6]
 ·intro p l ht hk
  cases l with
  | nil => exact ⟨by rw [Trs]; trivial, by simp [posts]⟩
  | cons k l => rw [Trs] at ht; exact ht.elim
 ·intro n ns h1 h2 p l ht hk
  cases l with
  | nil => rw [Trs] at ht; exact ht.elim
  | cons k l =>
   rw [Trs] at ht
   obtain ⟨⟨q, rfl, ht1⟩, ht2⟩ := ht
   rw [posts, Int.toNat_natCast] at hk
   obtain ⟨a1, a2⟩ := h1 p q ht1 (fun j hj => hk j (List.mem_append.2 (.inl hj)))
   obtain ⟨b1, b2⟩ := h2 p l ht2 (fun j hj => hk j (List.mem_append.2 (.inr hj)))
   exact ⟨by rw [Trs]; exact ⟨⟨q, rfl, a1⟩, b1⟩, by rw [posts, posts, Int.toNat_natCast, a2, b2]⟩
end Go.Tr

namespace Go.Tr
open Go.Sl Go.Ls
namespace Nd
theorem id_mem (n : Nd) : n.id ∈ n.order := by cases n; simp [order, id]
theorem find_none (i : Int) : ∀ n : Nd, i ∉ n.order → find i n = none := by
 intro n
 refine Nd.rec (motive_1 := fun n => i ∉ n.order → find i n = none) (motive_2 := fun l => i ∉ orders l → finds i l = none) ?_ ?_ ?_ n
 ·intro j g ks ih h
  simp only [order, List.mem_cons, not_or] at h
  rw [find, if_neg (fun e => h.1 e.symm), ih h.2]
 ·intro _; rfl
 ·intro k ks h1 h2 h
  simp only [orders, List.mem_append, not_or] at h
  rw [finds, h1 h.1, h2 h.2]; rfl
theorem finds_none (i : Int) : ∀ l : List Nd, i ∉ orders l → finds i l = none
 | [], _ => rfl
 | k :: ks, h => by
  simp only [orders, List.mem_append, not_or] at h
  rw [finds, find_none i k h.1, finds_none i ks h.2]; rfl
theorem find_id (i : Int) : ∀ (n m : Nd), find i n = some m → m.id = i ∧ i ∈ n.order := by
 intro n
 refine Nd.rec (motive_1 := fun n => ∀ m, find i n = some m → m.id = i ∧ i ∈ n.order) (motive_2 := fun l => ∀ m, finds i l = some m → m.id = i ∧ i ∈ orders l) ?_ ?_ ?_ n
 ·intro j g ks ih m h
  rw [find] at h
  by_cases hj : j = i
  ·rw [if_pos hj] at h
   injection h with h; subst h
   exact ⟨hj, by simp [order, hj]⟩
  ·rw [if_neg hj] at h
   have := ih m h
   exact ⟨this.1, by simp [order, this.2]⟩
 ·intro m h; cases h
 ·intro k ks h1 h2 m h
  rw [finds] at h
  cases hk : find i k with
  | some x =>
   rw [hk] at h
   injection h with h; subst h
   have := h1 x hk
   exact ⟨this.1, by simp [orders, this.2]⟩
  | none =>
   rw [hk] at h
   have := h2 m (by simpa using h)
   exact ⟨this.1, by simp [orders, this.2]⟩
theorem find_some (i : Int) (n : Nd) : (find i n).isSome = true ↔ i ∈ n.order := by
 constructor
 ·intro h
  obtain ⟨m, hm⟩ := Option.isSome_iff_exists.1 h
  exact (find_id i n m hm).2
 ·refine Nd.rec (motive_1 := fun n => i ∈ n.order → (find i n).isSome = true) (motive_2 := fun l => i ∈ orders l → (finds i l).isSome = true) ?_ ?_ ?_ n
  ·intro j g ks ih h
   rw [find]
   by_cases hj : j = i
   ·rw [if_pos hj]; rfl
   ·rw [if_neg hj]
    simp only [order, List.mem_cons] at h
    exact ih (h.resolve_left (fun e => hj e.symm))
  ·intro h; simp [orders] at h
  ·intro k ks h1 h2 h
   rw [finds]
   cases hk : find i k with
   | some x => rfl
   | none =>
    simp only [orders, List.mem_append] at h
    rcases h with h | h
    ·have := h1 h; rw [hk] at this; cases this
    ·simpa using h2 h
theorem depth_none (i : Int) : ∀ n : Nd, i ∉ n.order → depth i n = -1 := by
 intro n
 refine Nd.rec (motive_1 := fun n => i ∉ n.order → depth i n = -1) (motive_2 := fun l => i ∉ orders l → depths i l = -1) ?_ ?_ ?_ n
 ·intro j g ks ih h
  simp only [order, List.mem_cons, not_or] at h
  rw [depth, if_neg (fun e => h.1 e.symm), ih h.2]
 ·intro _; rfl
 ·intro k ks h1 h2 h
  simp only [orders, List.mem_append, not_or] at h
  rw [depths, h1 h.1, h2 h.2]; rfl
theorem whr_none (i : Int) : ∀ n : Nd, i ∉ n.order → whr i n = none := by
 intro n
 refine Nd.rec (motive_1 := fun n => i ∉ n.order → whr i n = none) (motive_2 := fun l => i ∉ orders l → ∀ j m, whrs i j m l = none) ?_ ?_ ?_ n
 ·intro j g ks ih h
  simp only [order, List.mem_cons, not_or] at h
  rw [whr, ih h.2]
 ·intro _ j m; rfl
 ·intro k ks h1 h2 h j m
  simp only [orders, List.mem_append, not_or] at h
  have : k.id ≠ i := fun e => h.1 (by rw [← e]; exact id_mem k)
  rw [whrs, if_neg this, h1 h.1, h2 h.2]; rfl
theorem with_none (i : Int) (l : List Nd) : ∀ n : Nd, i ∉ n.order → with_ i l n = n := by
 intro n
 refine Nd.rec (motive_1 := fun n => i ∉ n.order → with_ i l n = n) (motive_2 := fun ns => i ∉ orders ns → withs i l ns = ns) ?_ ?_ ?_ n
 ·intro j g ks ih h
  simp only [order, List.mem_cons, not_or] at h
  rw [with_, if_neg (fun e => h.1 e.symm), ih h.2]
 ·intro _; rfl
 ·intro k ks h1 h2 h
  simp only [orders, List.mem_append, not_or] at h
  rw [withs, h1 h.1, h2 h.2]
theorem withs_none (i : Int) (l : List Nd) : ∀ ns : List Nd, i ∉ orders ns → withs i l ns = ns
 | [], _ => rfl
 | k :: ks, h => by
  simp only [orders, List.mem_append, not_or] at h
  rw [withs, with_none i l k h.1, withs_none i l ks h.2]
theorem order_eq (n : Nd) : n.order = n.id :: orders n.kids := by cases n; rfl
theorem eta (n : Nd) : Nd.mk n.id n.grp n.kids = n := by cases n; rfl
end Nd
def Ar.idAt (A : Ar) (j : Nat) : Int := ((A.cells[j]?).map Cel.id).getD 0
theorem Ar.idAt_eq {A : Ar} {j : Nat} (h : j < A.cells.length) : A.idAt j = (A.cells[j]).id := by simp [Ar.idAt, h]
theorem Ar.idAt_congr {A B : Ar} {j : Nat} (h : A.cells[j]? = B.cells[j]?) : A.idAt j = B.idAt j := by rw [Ar.idAt, Ar.idAt, h]
theorem post_eq {A : Ar} {p : Int} {i : Nat} {nd : Nd} (h : Tr A p i nd) : ∃ hi : i < A.cells.length, post A i nd = posts A (A.cells[i]).kids nd.kids ++ [i] := by
 cases nd with | mk j g ks =>
 rw [Tr] at h
 obtain ⟨hi, _⟩ := h
 refine ⟨hi, ?_⟩
 rw [post, List.getElem?_eq_getElem hi]; rfl
theorem self_post (A : Ar) (i : Nat) (nd : Nd) : i ∈ post A i nd := by cases nd; rw [post]; simp
theorem Tr.ind {A : Ar} {P : Int → Nat → Nd → Prop} {Ps : Int → List Int → List Nd → Prop}
  (h1 : ∀ (p : Int) (i : Nat) (nd : Nd) (hi : i < A.cells.length), (A.cells[i]).id = nd.id → (A.cells[i]).grp = nd.grp → (A.cells[i]).par = p → Trs A (i : Int) (A.cells[i]).kids nd.kids → Ps (i : Int) (A.cells[i]).kids nd.kids → P p i nd)
  (h2 : ∀ p, Ps p [] []) (h3 : ∀ (p : Int) (q : Nat) (l : List Int) (n : Nd) (ns : List Nd), Tr A p q n → Trs A p l ns → P p q n → Ps p l ns → Ps p ((q : Int) :: l) (n :: ns)) :
  (∀ (nd : Nd) (p : Int) (i : Nat), Tr A p i nd → P p i nd) ∧ (∀ (ns : List Nd) (p : Int) (l : List Int), Trs A p l ns → Ps p l ns) := by
 have key : ∀ nd : Nd, ∀ (p : Int) (i : Nat), Tr A p i nd → P p i nd := by
  intro nd
  refine Nd.rec (motive_1 := fun nd => ∀ (p : Int) (i : Nat), Tr A p i nd → P p i nd) (motive_2 := fun ns => ∀ (p : Int) (l : List Int), Trs A p l ns → Ps p l ns) ?_ ?_ ?_ nd
  ·intro id g ks ih p i ht
   rw [Tr] at ht
   obtain ⟨hi, a, b, c, d⟩ := ht
   exact h1 p i _ hi a b c d (ih _ _ d)
  ·intro p l ht
   cases l with
   | nil => exact h2 p
   | cons k l => rw [Trs] at ht; exact ht.elim
  ·intro n ns a b p l ht
   cases l with
   | nil => rw [Trs] at ht; exact ht.elim
   | cons k l =>
    rw [Trs] at ht
    obtain ⟨⟨q, rfl, t1⟩, t2⟩ := ht
    exact h3 p q l n ns t1 t2 (a p q t1) (b p l t2)
 refine ⟨key, ?_⟩
 intro ns
 induction ns with
 | nil =>
  intro p l ht
  cases l with
  | nil => exact h2 p
  | cons k l => rw [Trs] at ht; exact ht.elim
 | cons n ns ih =>
  intro p l ht
  cases l with
  | nil => rw [Trs] at ht; exact ht.elim
  | cons k l =>
   rw [Trs] at ht
   obtain ⟨⟨q, rfl, t1⟩, t2⟩ := ht
   exact h3 p q l n ns t1 t2 (key n p q t1) (ih p l t2)
theorem posts_cons (A : Ar) (q : Nat) (l : List Int) (n : Nd) (ns : List Nd) : posts A ((q : Int) :: l) (n :: ns) = post A q n ++ posts A l ns := by rw [posts, Int.toNat_natCast]
theorem Trs.nil (A : Ar) (p : Int) : Trs A p [] [] := by rw [Trs]; trivial
theorem Trs.cons {A : Ar} {p : Int} {q : Nat} {l : List Int} {n : Nd} {ns : List Nd} (h : Tr A p q n) (k : Trs A p l ns) : Trs A p ((q : Int) :: l) (n :: ns) := by rw [Trs]; exact ⟨⟨q, rfl, h⟩, k⟩
theorem Tr.mk {A : Ar} {p : Int} {i : Nat} {nd : Nd} (hi : i < A.cells.length) (h1 : (A.cells[i]).id = nd.id) (h2 : (A.cells[i]).grp = nd.grp) (h3 : (A.cells[i]).par = p) (h4 : Trs A (i : Int) (A.cells[i]).kids nd.kids) : Tr A p i nd := by
 cases nd; rw [Tr]; exact ⟨hi, h1, h2, h3, h4⟩
theorem Trs.keep {A A' : Ar} {p : Int} (ns : List Nd) : ∀ l : List Int, Trs A p l ns → (∀ j ∈ posts A l ns, A'.cells[j]? = A.cells[j]?) → Trs A' p l ns ∧ posts A' l ns = posts A l ns := by
 induction ns with
 | nil =>
  intro l ht _
  cases l with
  | nil => exact ⟨Trs.nil _ _, by simp [posts]⟩
  | cons k l => rw [Trs] at ht; exact ht.elim
 | cons n ns ih =>
  intro l ht hk
  cases l with
  | nil => rw [Trs] at ht; exact ht.elim
  | cons k l =>
   rw [Trs] at ht
   obtain ⟨⟨q, rfl, t1⟩, t2⟩ := ht
   rw [posts_cons] at hk
   obtain ⟨a1, a2⟩ := Tr.keep n p q t1 (fun j hj => hk j (List.mem_append.2 (.inl hj)))
   obtain ⟨b1, b2⟩ := ih l t2 (fun j hj => hk j (List.mem_append.2 (.inr hj)))
   exact ⟨Trs.cons a1 b1, by rw [posts_cons, posts_cons, a2, b2]⟩
theorem Trs.app {A : Ar} {p : Int} : ∀ {l1 : List Int} {n1 : List Nd} {l2 : List Int} {n2 : List Nd}, Trs A p l1 n1 → Trs A p l2 n2 → Trs A p (l1 ++ l2) (n1 ++ n2)
 | [], [], _, _, _, h => h
 | k :: l, n :: ns, _, _, h, k' => by
  rw [Trs] at h
  obtain ⟨⟨q, rfl, t1⟩, t2⟩ := h
  exact Trs.cons t1 (Trs.app t2 k')
 | [], _ :: _, _, _, h, _ => by rw [Trs] at h; exact h.elim
 | _ :: _, [], _, _, h, _ => by rw [Trs] at h; exact h.elim
theorem posts_app (A : Ar) : ∀ {l1 : List Int} {n1 : List Nd} (l2 : List Int) (n2 : List Nd), l1.length = n1.length → posts A (l1 ++ l2) (n1 ++ n2) = posts A l1 n1 ++ posts A l2 n2
 | [], [], _, _, _ => by simp [posts]
 | k :: l, n :: ns, l2, n2, h => by
  simp only [List.cons_append, posts]
  rw [posts_app A l2 n2 (by simpa using h), List.append_assoc]
 | [], _ :: _, _, _, h => by simp at h
 | _ :: _, [], _, _, h => by simp at h
theorem Trs.split {A : Ar} {p : Int} : ∀ (k : Nat) {l : List Int} {ns : List Nd}, Trs A p l ns → Trs A p (l.take k) (ns.take k) ∧ Trs A p (l.drop k) (ns.drop k) ∧ posts A l ns = posts A (l.take k) (ns.take k) ++ posts A (l.drop k) (ns.drop k)
 | 0, l, ns, h => ⟨Trs.nil _ _, h, by simp [posts]⟩
 | k + 1, [], [], h => ⟨h, h, by simp [posts]⟩
 | k + 1, x :: l, n :: ns, h => by
  rw [Trs] at h
  obtain ⟨⟨q, rfl, t1⟩, t2⟩ := h
  obtain ⟨a, b, c⟩ := Trs.split k t2
  simp only [List.take_succ_cons, List.drop_succ_cons]
  exact ⟨Trs.cons t1 a, b, by rw [posts_cons, posts_cons, c, List.append_assoc]⟩
 | _ + 1, [], _ :: _, h => by rw [Trs] at h; exact h.elim
 | _ + 1, _ :: _, [], h => by rw [Trs] at h; exact h.elim
theorem Tr.ids2 (A : Ar) : (∀ (nd : Nd) (p : Int) (i : Nat), Tr A p i nd → ((post A i nd).map A.idAt).Perm nd.order ∧ ∀ j ∈ post A i nd, j < A.cells.length) ∧ (∀ (ns : List Nd) (p : Int) (l : List Int), Trs A p l ns → ((posts A l ns).map A.idAt).Perm (Nd.orders ns) ∧ ∀ j ∈ posts A l ns, j < A.cells.length) := by
 refine Tr.ind (P := fun p i nd => ((post A i nd).map A.idAt).Perm nd.order ∧ ∀ j ∈ post A i nd, j < A.cells.length) (Ps := fun p l ns => ((posts A l ns).map A.idAt).Perm (Nd.orders ns) ∧ ∀ j ∈ posts A l ns, j < A.cells.length) ?_ ?_ ?_
 ·rintro p i nd hi h1 h2 h3 h4 ⟨h5, h6⟩
  obtain ⟨_, e⟩ := post_eq (Tr.mk hi h1 h2 h3 h4)
  rw [e]
  refine ⟨?_, fun j hj => ?_⟩
  ·rw [List.map_append, Nd.order_eq, List.map_singleton, Ar.idAt_eq hi, h1]
   exact List.perm_append_comm.trans (h5.cons _)
  ·rcases List.mem_append.1 hj with hj | hj
   ·exact h6 j hj
   ·rw [List.mem_singleton.1 hj]; exact hi
 ·intro p
  exact ⟨by simp [posts, Nd.orders], by simp [posts]⟩
 ·rintro p q l n ns _ _ ⟨a1, a2⟩ ⟨b1, b2⟩
  rw [posts_cons, List.map_append, Nd.orders]
  exact ⟨a1.append b1, fun j hj => (List.mem_append.1 hj).elim (a2 j) (b2 j)⟩
theorem Tr.ids {A : Ar} {nd : Nd} {p : Int} {i : Nat} (h : Tr A p i nd) : ((post A i nd).map A.idAt).Perm nd.order := ((Tr.ids2 A).1 nd p i h).1
theorem Tr.lt {A : Ar} {nd : Nd} {p : Int} {i : Nat} (h : Tr A p i nd) : ∀ j ∈ post A i nd, j < A.cells.length := ((Tr.ids2 A).1 nd p i h).2
theorem Trs.ids {A : Ar} {ns : List Nd} {p : Int} {l : List Int} (h : Trs A p l ns) : ((posts A l ns).map A.idAt).Perm (Nd.orders ns) := ((Tr.ids2 A).2 ns p l h).1
theorem Trs.lt {A : Ar} {ns : List Nd} {p : Int} {l : List Int} (h : Trs A p l ns) : ∀ j ∈ posts A l ns, j < A.cells.length := ((Tr.ids2 A).2 ns p l h).2
theorem Tr.mem {A : Ar} {nd : Nd} {p : Int} {i j : Nat} (h : Tr A p i nd) (hj : j ∈ post A i nd) : A.idAt j ∈ nd.order := h.ids.mem_iff.1 (List.mem_map_of_mem hj)
theorem Trs.mem {A : Ar} {ns : List Nd} {p : Int} {l : List Int} {j : Nat} (h : Trs A p l ns) (hj : j ∈ posts A l ns) : A.idAt j ∈ Nd.orders ns := h.ids.mem_iff.1 (List.mem_map_of_mem hj)
theorem Tr.of_mem {A : Ar} {nd : Nd} {p : Int} {i : Nat} (h : Tr A p i nd) {x : Int} (hx : x ∈ nd.order) : ∃ j ∈ post A i nd, A.idAt j = x := by
 obtain ⟨j, h1, h2⟩ := List.mem_map.1 (h.ids.mem_iff.2 hx)
 exact ⟨j, h1, h2⟩
theorem Tr.len {A : Ar} {nd : Nd} {p : Int} {i : Nat} (h : Tr A p i nd) : (post A i nd).length = nd.size := by
 rw [← Nd.order_len, ← h.ids.length_eq, List.length_map]
theorem Tr.idAt {A : Ar} {nd : Nd} {p : Int} {i : Nat} (h : Tr A p i nd) : A.idAt i = nd.id := by
 obtain ⟨hi, h1, _⟩ := h.ex
 rw [Ar.idAt_eq hi, h1]
theorem nodup_of_map {α β : Type} {f : α → β} : ∀ {l : List α}, (l.map f).Nodup → l.Nodup
 | [], _ => List.nodup_nil
 | a :: l, h => by
  rw [List.map_cons, List.nodup_cons] at h
  rw [List.nodup_cons]
  exact ⟨fun hm => h.1 (List.mem_map_of_mem hm), nodup_of_map h.2⟩
theorem Tr.nodup {A : Ar} {nd : Nd} {p : Int} {i : Nat} (h : Tr A p i nd) (ho : nd.order.Nodup) : (post A i nd).Nodup := nodup_of_map (h.ids.nodup_iff.2 ho)
theorem inj_of_nodup {α β : Type} {f : α → β} {a b : α} : ∀ {l : List α}, (l.map f).Nodup → a ∈ l → b ∈ l → f a = f b → a = b
 | x :: l, h, ha, hb, e => by
  rw [List.map_cons, List.nodup_cons] at h
  rcases List.mem_cons.1 ha with h1 | h1 <;> rcases List.mem_cons.1 hb with h2 | h2
  ·rw [h1, h2]
  ·subst h1; exact absurd (e ▸ List.mem_map_of_mem h2) h.1
  ·subst h2; exact absurd (e ▸ List.mem_map_of_mem h1) h.1
  ·exact inj_of_nodup h.2 h1 h2 e
theorem Tr.inj {A : Ar} {nd : Nd} {p : Int} {i : Nat} (h : Tr A p i nd) (ho : nd.order.Nodup) {a b : Nat} (ha : a ∈ post A i nd) (hb : b ∈ post A i nd) (e : A.idAt a = A.idAt b) : a = b := inj_of_nodup (h.ids.nodup_iff.2 ho) ha hb e
theorem Tr.kid2 (A : Ar) : (∀ (nd : Nd) (p : Int) (i : Nat), Tr A p i nd → ∀ x ∈ post A i nd, ∀ hx : x < A.cells.length, ∀ k ∈ (A.cells[x]).kids, ∃ q : Nat, k = (q : Int) ∧ q ∈ post A i nd ∧ ∃ hq : q < A.cells.length, (A.cells[q]).par = (x : Int)) ∧
  (∀ (ns : List Nd) (p : Int) (l : List Int), Trs A p l ns → (∀ x ∈ posts A l ns, ∀ hx : x < A.cells.length, ∀ k ∈ (A.cells[x]).kids, ∃ q : Nat, k = (q : Int) ∧ q ∈ posts A l ns ∧ ∃ hq : q < A.cells.length, (A.cells[q]).par = (x : Int)) ∧ ∀ k ∈ l, ∃ q : Nat, k = (q : Int) ∧ q ∈ posts A l ns ∧ ∃ hq : q < A.cells.length, (A.cells[q]).par = p) := by
 refine Tr.ind (P := fun p i nd => ∀ x ∈ post A i nd, ∀ hx : x < A.cells.length, ∀ k ∈ (A.cells[x]).kids, ∃ q : Nat, k = (q : Int) ∧ q ∈ post A i nd ∧ ∃ hq : q < A.cells.length, (A.cells[q]).par = (x : Int))
  (Ps := fun p l ns => (∀ x ∈ posts A l ns, ∀ hx : x < A.cells.length, ∀ k ∈ (A.cells[x]).kids, ∃ q : Nat, k = (q : Int) ∧ q ∈ posts A l ns ∧ ∃ hq : q < A.cells.length, (A.cells[q]).par = (x : Int)) ∧ ∀ k ∈ l, ∃ q : Nat, k = (q : Int) ∧ q ∈ posts A l ns ∧ ∃ hq : q < A.cells.length, (A.cells[q]).par = p) ?_ ?_ ?_
 ·rintro p i nd hi h1 h2 h3 h4 ⟨h5, h6⟩ x hx hxl k hk
  obtain ⟨_, e⟩ := post_eq (Tr.mk hi h1 h2 h3 h4)
  rw [e] at hx ⊢
  rcases List.mem_append.1 hx with hx | hx
  ·obtain ⟨q, e1, e2, e3⟩ := h5 x hx hxl k hk
   exact ⟨q, e1, List.mem_append.2 (.inl e2), e3⟩
  ·rw [List.mem_singleton] at hx
   subst hx
   obtain ⟨q, e1, e2, e3⟩ := h6 k hk
   exact ⟨q, e1, List.mem_append.2 (.inl e2), e3⟩
 ·intro p
  exact ⟨fun x hx => by simp [posts] at hx, fun k hk => by cases hk⟩
 ·rintro p q l n ns t1 t2 a1 ⟨b1, b2⟩
  rw [posts_cons]
  refine ⟨fun x hx hxl k hk => ?_, fun k hk => ?_⟩
  ·rcases List.mem_append.1 hx with hx | hx
   ·obtain ⟨q, e1, e2, e3⟩ := a1 x hx hxl k hk
    exact ⟨q, e1, List.mem_append.2 (.inl e2), e3⟩
   ·obtain ⟨q, e1, e2, e3⟩ := b1 x hx hxl k hk
    exact ⟨q, e1, List.mem_append.2 (.inr e2), e3⟩
  ·rcases List.mem_cons.1 hk with rfl | hk
   ·obtain ⟨hi, _, _, h3, _⟩ := t1.ex
    exact ⟨q, rfl, List.mem_append.2 (.inl (self_post A q n)), hi, h3⟩
   ·obtain ⟨q, e1, e2, e3⟩ := b2 k hk
    exact ⟨q, e1, List.mem_append.2 (.inr e2), e3⟩
theorem Tr.kid_in {A : Ar} {nd : Nd} {p : Int} {i : Nat} (h : Tr A p i nd) {x : Nat} (hx : x ∈ post A i nd) (hl : x < A.cells.length) {k : Int} (hk : k ∈ (A.cells[x]).kids) : ∃ q : Nat, k = (q : Int) ∧ q ∈ post A i nd ∧ ∃ hq : q < A.cells.length, (A.cells[q]).par = (x : Int) := (Tr.kid2 A).1 nd p i h x hx hl k hk
def Lies (A : Ar) (x y k : Nat) : Prop := ∃ (hx : x < A.cells.length) (hy : y < A.cells.length), (A.cells[x]).par = (y : Int) ∧ (A.cells[y]).kids[k]? = some (x : Int) ∧ (x : Int) ∉ (A.cells[y]).kids.take k
theorem mem_l {A : Ar} {p : Int} : ∀ {l : List Int} {ns : List Nd}, Trs A p l ns → ∀ {q : Nat}, (q : Int) ∈ l → q ∈ posts A l ns
 | k :: l, n :: ns, h, q, hq => by
  rw [Trs] at h
  obtain ⟨⟨r, rfl, t1⟩, t2⟩ := h
  rw [posts_cons]
  rcases List.mem_cons.1 hq with e | hq
  ·have : q = r := by omega
   subst this
   exact List.mem_append.2 (.inl (self_post A q n))
  ·exact List.mem_append.2 (.inr (mem_l t2 hq))
 | [], _, _, q, hq => by cases hq
 | _ :: _, [], h, _, _ => by rw [Trs] at h; exact h.elim
theorem dis_of_nodup {α : Type} {a b : List α} (h : (a ++ b).Nodup) {x : α} (hx : x ∈ a) : x ∉ b := fun hb => (List.nodup_append.1 h).2.2 x hx x hb rfl
theorem Tr.whr2 (A : Ar) : (∀ (nd : Nd) (p : Int) (i : Nat), Tr A p i nd → nd.order.Nodup → ∀ x ∈ post A i nd, x ≠ i → ∃ y ∈ post A i nd, ∃ k : Nat, Lies A x y k ∧ Nd.whr (A.idAt x) nd = some (A.idAt y, (k : Int))) ∧
  (∀ (ns : List Nd) (p : Int) (l : List Int), Trs A p l ns → (Nd.orders ns).Nodup → ∀ x ∈ posts A l ns, (∃ k : Nat, (∃ hx : x < A.cells.length, (A.cells[x]).par = p) ∧ l[k]? = some (x : Int) ∧ (x : Int) ∉ l.take k ∧ ∀ j n, Nd.whrs (A.idAt x) j n ns = some (j, ((n + k : Nat) : Int))) ∨
   (∃ y ∈ posts A l ns, ∃ k : Nat, Lies A x y k ∧ ∀ j n, Nd.whrs (A.idAt x) j n ns = some (A.idAt y, (k : Int)))) := by
 refine Tr.ind (P := fun p i nd => nd.order.Nodup → ∀ x ∈ post A i nd, x ≠ i → ∃ y ∈ post A i nd, ∃ k : Nat, Lies A x y k ∧ Nd.whr (A.idAt x) nd = some (A.idAt y, (k : Int)))
  (Ps := fun p l ns => (Nd.orders ns).Nodup → ∀ x ∈ posts A l ns, (∃ k : Nat, (∃ hx : x < A.cells.length, (A.cells[x]).par = p) ∧ l[k]? = some (x : Int) ∧ (x : Int) ∉ l.take k ∧ ∀ j n, Nd.whrs (A.idAt x) j n ns = some (j, ((n + k : Nat) : Int))) ∨
   (∃ y ∈ posts A l ns, ∃ k : Nat, Lies A x y k ∧ ∀ j n, Nd.whrs (A.idAt x) j n ns = some (A.idAt y, (k : Int)))) ?_ ?_ ?_
 ·rintro p i nd hi h1 h2 h3 h4 h5 ho x hx hxi
  obtain ⟨_, e⟩ := post_eq (Tr.mk hi h1 h2 h3 h4)
  rw [e] at hx ⊢
  rw [Nd.order_eq, List.nodup_cons] at ho
  have hx' : x ∈ posts A (A.cells[i]).kids nd.kids := (List.mem_append.1 hx).resolve_right (fun h => hxi (List.mem_singleton.1 h))
  have hw : Nd.whr (A.idAt x) nd = Nd.whrs (A.idAt x) nd.id 0 nd.kids := by cases nd; rfl
  rcases h5 ho.2 x hx' with ⟨k, ⟨hxl, hpar⟩, e1, e2, e3⟩ | ⟨y, hy, k, hat, e3⟩
  ·refine ⟨i, List.mem_append.2 (.inr (List.mem_singleton.2 rfl)), k, ⟨hxl, hi, hpar, e1, e2⟩, ?_⟩
   rw [hw, e3, Ar.idAt_eq hi, h1, Nat.zero_add]
  ·exact ⟨y, List.mem_append.2 (.inl hy), k, hat, by rw [hw, e3]⟩
 ·intro p _ x hx
  simp [posts] at hx
 ·intro p q l n ns t1 t2 a b ho x hx
  rw [Nd.orders] at ho
  have hn := List.nodup_append.1 ho
  rw [posts_cons] at hx ⊢
  rcases List.mem_append.1 hx with hx | hx
  ·by_cases hq : x = q
   ·subst hq
    obtain ⟨hi, hid, _, hpar, _⟩ := t1.ex
    refine .inl ⟨0, ⟨hi, hpar⟩, rfl, by simp, fun j m => ?_⟩
    rw [Nd.whrs, if_pos (by rw [Ar.idAt_eq hi, hid])]; rfl
   ·obtain ⟨y, hy, k, hat, hw⟩ := a hn.1 x hx hq
    refine .inr ⟨y, List.mem_append.2 (.inl hy), k, hat, fun j m => ?_⟩
    have : n.id ≠ A.idAt x := fun e => hq (t1.inj hn.1 hx (self_post A q n) (by rw [t1.idAt, e]))
    rw [Nd.whrs, if_neg this, hw]; rfl
  ·have hm := t2.mem hx
   have hnm : A.idAt x ∉ n.order := fun h => hn.2.2 _ h _ hm rfl
   have hid : n.id ≠ A.idAt x := fun e => hnm (by rw [← e]; exact Nd.id_mem n)
   have hxq : x ≠ q := fun e => hid (by rw [e, t1.idAt])
   have hstep : ∀ j m, Nd.whrs (A.idAt x) j m (n :: ns) = Nd.whrs (A.idAt x) j (m + 1) ns := fun j m => by
    rw [Nd.whrs, if_neg hid, Nd.whr_none _ _ hnm]; rfl
   rcases b hn.2.1 x hx with ⟨k, hpar, e1, e2, e3⟩ | ⟨y, hy, k, hat, e3⟩
   ·refine .inl ⟨k + 1, hpar, by rw [List.getElem?_cons_succ]; exact e1, ?_, fun j m => ?_⟩
    ·rw [List.take_succ_cons, List.mem_cons]
     rintro (h | h)
     ·exact hxq (by omega)
     ·exact e2 h
    ·rw [hstep, e3, show m + 1 + k = m + (k + 1) by omega]
   ·exact .inr ⟨y, List.mem_append.2 (.inr hy), k, hat, fun j m => by rw [hstep, e3]⟩
theorem Tr.whr {A : Ar} {nd : Nd} {p : Int} {i : Nat} (h : Tr A p i nd) (ho : nd.order.Nodup) {x : Nat} (hx : x ∈ post A i nd) (hxi : x ≠ i) : ∃ y ∈ post A i nd, ∃ k : Nat, Lies A x y k ∧ Nd.whr (A.idAt x) nd = some (A.idAt y, (k : Int)) := (Tr.whr2 A).1 nd p i h ho x hx hxi
theorem Tr.up2 (A : Ar) : (∀ (nd : Nd) (p : Int) (i : Nat), Tr A p i nd → nd.order.Nodup → ∀ x ∈ post A i nd, ∀ l, Ch A i l → ∃ l', Ch A x (l' ++ l) ∧ Nd.depth (A.idAt x) nd = (l'.length : Int)) ∧
  (∀ (ns : List Nd) (p : Int) (l : List Int), Trs A p l ns → (Nd.orders ns).Nodup → ∀ x ∈ posts A l ns, ∀ (i : Nat) r, p = (i : Int) → Ch A i r → ∃ l', Ch A x (l' ++ r) ∧ 0 < l'.length ∧ Nd.depths (A.idAt x) ns = (l'.length : Int)) := by
 refine Tr.ind (P := fun p i nd => nd.order.Nodup → ∀ x ∈ post A i nd, ∀ l, Ch A i l → ∃ l', Ch A x (l' ++ l) ∧ Nd.depth (A.idAt x) nd = (l'.length : Int))
  (Ps := fun p l ns => (Nd.orders ns).Nodup → ∀ x ∈ posts A l ns, ∀ (i : Nat) r, p = (i : Int) → Ch A i r → ∃ l', Ch A x (l' ++ r) ∧ 0 < l'.length ∧ Nd.depths (A.idAt x) ns = (l'.length : Int)) ?_ ?_ ?_
 ·rintro p i nd hi h1 h2 h3 h4 h5 ho x hx l hl
  obtain ⟨_, e⟩ := post_eq (Tr.mk hi h1 h2 h3 h4)
  rw [e] at hx
  have hd : Nd.depth (A.idAt x) nd = if nd.id = A.idAt x then 0 else Nd.depths (A.idAt x) nd.kids := by cases nd; rfl
  rw [Nd.order_eq, List.nodup_cons] at ho
  rcases List.mem_append.1 hx with hx | hx
  ·obtain ⟨l', c1, c2, c3⟩ := h5 ho.2 x hx i l rfl hl
   refine ⟨l', c1, ?_⟩
   rw [hd, if_neg (fun e => ho.1 (by rw [e]; exact h4.mem hx)), c3]
  ·rw [List.mem_singleton] at hx
   subst hx
   exact ⟨[], hl, by rw [hd, if_pos (by rw [Ar.idAt_eq hi, h1])]; rfl⟩
 ·intro p _ x hx
  simp [posts] at hx
 ·intro p q l n ns t1 t2 a b ho x hx i r hp hr
  subst hp
  rw [Nd.orders] at ho
  have hn := List.nodup_append.1 ho
  rw [posts_cons] at hx
  rcases List.mem_append.1 hx with hx | hx
  ·obtain ⟨hq, _, _, hpar, _⟩ := t1.ex
   obtain ⟨l', c1, c2⟩ := a hn.1 x hx (q :: r) (Ch.up hq hpar hr)
   refine ⟨l' ++ [q], by rw [List.append_assoc]; exact c1, by simp, ?_⟩
   rw [Nd.depths, c2, if_pos (by omega), List.length_append]
   simp
  ·have hnm : A.idAt x ∉ n.order := fun h => hn.2.2 _ h _ (t2.mem hx) rfl
   obtain ⟨l', c1, c2, c3⟩ := b hn.2.1 x hx i r rfl hr
   exact ⟨l', c1, c2, by rw [Nd.depths, Nd.depth_none _ _ hnm, if_neg (by decide), c3]⟩
theorem Tr.up {A : Ar} {nd : Nd} {p : Int} {i : Nat} (h : Tr A p i nd) (ho : nd.order.Nodup) {x : Nat} (hx : x ∈ post A i nd) {l : List Nat} (hl : Ch A i l) : ∃ l', Ch A x (l' ++ l) ∧ Nd.depth (A.idAt x) nd = (l'.length : Int) := (Tr.up2 A).1 nd p i h ho x hx l hl
theorem Ch.eq {A : Ar} {i : Nat} {l : List Nat} (h : Ch A i l) : ∀ {l' : List Nat}, Ch A i l' → l = l' := by
 induction h with
 | top hi hp =>
  intro l' h'
  cases h' with
  | top => rfl
  | up hi' hp' hl' => omega
 | up hi hp hl ih =>
  intro l' h'
  cases h' with
  | top hi' hp' => omega
  | up hi' hp' hl' =>
   have : (_ : Nat) = _ := Int.ofNat.inj (hp.symm.trans hp')
   subst this
   rw [ih hl']
end Go.Tr

namespace Go.Tr
open Go.Sl Go.Ls
structure Foc (A : Ar) (p : Int) (i : Nat) (nd : Nd) (q : Nat) (qp : Int) (np : Nd) (R : List Nat) (RO : List Int) : Prop where
 tr : Tr A qp q np
 top : q = i → qp = p ∧ np = nd
 find : Nd.find np.id nd = some np
 perm : (post A i nd).Perm (post A q np ++ R)
 order : nd.order.Perm (np.order ++ RO)
 with_ : ∀ (A' : Ar) (np' : Nd), np'.id = np.id → np'.grp = np.grp → Tr A' qp q np' → (∀ j ∈ R, A'.cells[j]? = A.cells[j]?) → Tr A' p i (Nd.with_ np.id np'.kids nd) ∧ (post A' i (Nd.with_ np.id np'.kids nd)).Perm (post A' q np' ++ R)
 order' : ∀ np' : Nd, np'.id = np.id → np'.grp = np.grp → (Nd.with_ np.id np'.kids nd).order.Perm (np'.order ++ RO)
structure Focs (A : Ar) (p : Int) (l : List Int) (ns : List Nd) (q : Nat) (qp : Int) (np : Nd) (R : List Nat) (RO : List Int) : Prop where
 tr : Tr A qp q np
 find : Nd.finds np.id ns = some np
 perm : (posts A l ns).Perm (post A q np ++ R)
 order : (Nd.orders ns).Perm (np.order ++ RO)
 with_ : ∀ (A' : Ar) (np' : Nd), np'.id = np.id → np'.grp = np.grp → Tr A' qp q np' → (∀ j ∈ R, A'.cells[j]? = A.cells[j]?) → Trs A' p l (Nd.withs np.id np'.kids ns) ∧ (posts A' l (Nd.withs np.id np'.kids ns)).Perm (post A' q np' ++ R)
 order' : ∀ np' : Nd, np'.id = np.id → np'.grp = np.grp → (Nd.orders (Nd.withs np.id np'.kids ns)).Perm (np'.order ++ RO)
theorem mk_with {nd np' : Nd} (h1 : np'.id = nd.id) (h2 : np'.grp = nd.grp) : Nd.with_ nd.id np'.kids nd = np' := by
 cases nd; cases np'
 simp only [Nd.id, Nd.grp] at h1 h2
 subst h1; subst h2
 simp only [Nd.with_, Nd.id, Nd.kids, if_true]
theorem Tr.focus2 (A : Ar) : (∀ (nd : Nd) (p : Int) (i : Nat), Tr A p i nd → nd.order.Nodup → ∀ q ∈ post A i nd, ∃ qp np R RO, Foc A p i nd q qp np R RO) ∧
  (∀ (ns : List Nd) (p : Int) (l : List Int), Trs A p l ns → (Nd.orders ns).Nodup → ∀ q ∈ posts A l ns, ∃ qp np R RO, Focs A p l ns q qp np R RO) := by
 refine Tr.ind (P := fun p i nd => nd.order.Nodup → ∀ q ∈ post A i nd, ∃ qp np R RO, Foc A p i nd q qp np R RO)
  (Ps := fun p l ns => (Nd.orders ns).Nodup → ∀ q ∈ posts A l ns, ∃ qp np R RO, Focs A p l ns q qp np R RO) ?_ ?_ ?_
 ·intro p i nd hi h1 h2 h3 h4 h5 ho q hq
  have ht := Tr.mk hi h1 h2 h3 h4
  obtain ⟨_, e⟩ := post_eq ht
  by_cases hqi : q = i
  ·subst hqi
   refine ⟨p, nd, [], [], ht, fun _ => ⟨rfl, rfl⟩, by cases nd; simp [Nd.find, Nd.id], by simp, by simp, fun A' np' a b c _ => ?_, fun np' a b => ?_⟩
   ·rw [mk_with a b]; exact ⟨c, by simp⟩
   ·rw [mk_with a b]; simp
  have hq' : q ∈ posts A (A.cells[i]).kids nd.kids := by
   rw [e] at hq
   exact (List.mem_append.1 hq).resolve_right (fun h => hqi (List.mem_singleton.1 h))
  have hod := ho
  rw [Nd.order_eq, List.nodup_cons] at ho
  obtain ⟨qp, np, R, RO, f⟩ := h5 ho.2 q hq'
  have hidq : np.id ≠ nd.id := fun e => ho.1 (by
   rw [← e]; exact f.order.mem_iff.2 (List.mem_append.2 (.inl (Nd.id_mem np))))
  have hw : ∀ ks, Nd.with_ np.id ks nd = .mk nd.id nd.grp (Nd.withs np.id ks nd.kids) := fun ks => by
   cases nd; rw [Nd.with_, if_neg (fun e => hidq e.symm)]; rfl
  have hiR : i ∉ post A q np := fun hm => by
   have hnp := f.perm.mem_iff.2 (List.mem_append.2 (.inl hm))
   have := ht.nodup hod
   rw [e] at this
   exact dis_of_nodup this hnp (List.mem_singleton.2 rfl)
  refine ⟨qp, np, R ++ [i], nd.id :: RO, f.tr, fun h => absurd h hqi, ?_, ?_, ?_, ?_, ?_⟩
  ·have : Nd.find np.id nd = if nd.id = np.id then some nd else Nd.finds np.id nd.kids := by cases nd; rfl
   rw [this, if_neg (fun e => hidq e.symm), f.find]
  ·rw [e, ← List.append_assoc]; exact f.perm.append_right _
  ·rw [Nd.order_eq]
   exact (f.order.cons _).trans List.perm_middle.symm
  ·intro A' np' a b c d
   obtain ⟨g1, g2⟩ := f.with_ A' np' a b c (fun j hj => d j (List.mem_append.2 (.inl hj)))
   have hii := d i (List.mem_append.2 (.inr (List.mem_singleton.2 rfl)))
   have hi' : i < A'.cells.length := by
    rcases Nat.lt_or_ge i A'.cells.length with h | h
    ·exact h
    ·rw [List.getElem?_eq_none h, List.getElem?_eq_getElem hi] at hii; cases hii
   have he : A'.cells[i] = A.cells[i] := by
    rw [List.getElem?_eq_getElem hi, List.getElem?_eq_getElem hi'] at hii; injection hii
   have ht' : Tr A' p i (Nd.with_ np.id np'.kids nd) := by
    rw [hw]
    exact Tr.mk hi' (by rw [he]; exact h1) (by rw [he]; exact h2) (by rw [he]; exact h3) (by rw [he]; exact g1)
   refine ⟨ht', ?_⟩
   obtain ⟨_, e'⟩ := post_eq ht'
   rw [e', hw, he, ← List.append_assoc]
   exact g2.append_right _
  ·intro np' a b
   rw [hw, Nd.order]
   exact ((f.order' np' a b).cons _).trans List.perm_middle.symm
 ·intro p _ q hq
  simp [posts] at hq
 ·intro p r l n ns t1 t2 a b ho q hq
  have ho' := ho
  rw [Nd.orders] at ho'
  have hn := List.nodup_append.1 ho'
  rw [posts_cons] at hq
  rcases List.mem_append.1 hq with hq | hq
  ·obtain ⟨qp, np, R, RO, f⟩ := a hn.1 q hq
   have hno : np.id ∉ Nd.orders ns := fun h => hn.2.2 _ (f.order.mem_iff.2 (List.mem_append.2 (.inl (Nd.id_mem np)))) _ h rfl
   refine ⟨qp, np, R ++ posts A l ns, RO ++ Nd.orders ns, f.tr, ?_, ?_, ?_, ?_, ?_⟩
   ·rw [Nd.finds, f.find]; rfl
   ·rw [posts_cons, ← List.append_assoc]; exact f.perm.append_right _
   ·rw [Nd.orders, ← List.append_assoc]; exact f.order.append_right _
   ·intro A' np' a b c d
    obtain ⟨g1, g2⟩ := f.with_ A' np' a b c (fun j hj => d j (List.mem_append.2 (.inl hj)))
    obtain ⟨k1, k2⟩ := Trs.keep ns l t2 (fun j hj => d j (List.mem_append.2 (.inr hj)))
    rw [Nd.withs, Nd.withs_none _ _ ns hno, posts_cons, k2, ← List.append_assoc]
    exact ⟨Trs.cons g1 k1, g2.append_right _⟩
   ·intro np' a b
    rw [Nd.withs, Nd.withs_none _ _ ns hno, Nd.orders, ← List.append_assoc]
    exact (f.order' np' a b).append_right _
  ·obtain ⟨qp, np, R, RO, f⟩ := b hn.2.1 q hq
   have hno : np.id ∉ n.order := fun h => hn.2.2 _ h _ (f.order.mem_iff.2 (List.mem_append.2 (.inl (Nd.id_mem np)))) rfl
   refine ⟨qp, np, post A r n ++ R, n.order ++ RO, f.tr, ?_, ?_, ?_, ?_, ?_⟩
   ·rw [Nd.finds, Nd.find_none _ _ hno, f.find]; rfl
   ·rw [posts_cons]; exact (f.perm.append_left _).trans (List.perm_append_comm_assoc _ _ _)
   ·rw [Nd.orders]; exact (f.order.append_left _).trans (List.perm_append_comm_assoc _ _ _)
   ·intro A' np' a b c d
    obtain ⟨g1, g2⟩ := f.with_ A' np' a b c (fun j hj => d j (List.mem_append.2 (.inr hj)))
    obtain ⟨k1, k2⟩ := Tr.keep n p r t1 (fun j hj => d j (List.mem_append.2 (.inl hj)))
    rw [Nd.withs, Nd.with_none _ _ n hno, posts_cons, k2]
    exact ⟨Trs.cons k1 g1, (g2.append_left _).trans (List.perm_append_comm_assoc _ _ _)⟩
   ·intro np' a b
    rw [Nd.withs, Nd.with_none _ _ n hno, Nd.orders]
    exact ((f.order' np' a b).append_left _).trans (List.perm_append_comm_assoc _ _ _)
theorem Tr.focus {A : Ar} {nd : Nd} {p : Int} {i : Nat} (h : Tr A p i nd) (ho : nd.order.Nodup) {q : Nat} (hq : q ∈ post A i nd) : ∃ qp np R RO, Foc A p i nd q qp np R RO := (Tr.focus2 A).1 nd p i h ho q hq
structure Abs (A : Ar) (top : Nd) : Prop where
 ok : A.Ok
 tr : Tr A (-1) 0 top
 od : top.order.Nodup
 nd : (post A 0 top ++ A.free.map Int.toNat).Nodup
 frb : ∀ x ∈ A.free, ∃ n : Nat, x = (n : Int) ∧ n < A.cells.length
 len : A.cells.length = top.size + A.free.length
 cap : A.cells.length ≤ 100000
 at_ : ∀ j ∈ post A 0 top, A.at_ (A.idAt j) = some (j : Int)
 atn : ∀ i, i ∉ top.order → A.at_ i = none
 cnt : A.cnt = top.size
 id0 : top.id = 0
 g0 : top.grp = true
theorem Abs.fresh (b mb cg : Nat) : Abs (Ar.fresh b mb cg) (.mk 0 true []) := by
 have hl : (Ar.fresh b mb cg).cells.length = 1 := rfl
 have ht : Tr (Ar.fresh b mb cg) (-1) 0 (.mk 0 true []) := Tr.mk (by rw [hl]; decide) rfl rfl rfl (Trs.nil _ _)
 have hp : post (Ar.fresh b mb cg) 0 (.mk 0 true []) = [0] := by
  obtain ⟨_, e⟩ := post_eq ht
  rw [e]; rfl
 refine ⟨⟨by rw [hl]; decide, fun i p h => ?_, fun c hc => ?_, fun c hc => ?_, fun c hc => ?_⟩, ht, by simp [Nd.order, Nd.orders], by rw [hp]; show ([0] : List Nat).Nodup; decide, fun x hx => absurd hx (by simp [Ar.fresh]), rfl, by rw [hl]; decide, fun j hj => ?_, fun i hi => ?_, rfl, rfl, rfl⟩
 ·simp only [Ar.fresh] at h
  split at h
  ·injection h with h; exact ⟨0, h.symm, by rw [hl]; decide⟩
  ·cases h
 ·have : c = rootCel := by simpa [Ar.fresh] using hc
  subst this; exact ⟨by decide, by decide⟩
 ·have : c = rootCel := by simpa [Ar.fresh] using hc
  subst this; exact ⟨by decide, by decide⟩
 ·have : c = rootCel := by simpa [Ar.fresh] using hc
  subst this; decide
 ·rw [hp, List.mem_singleton] at hj
  subst hj; rfl
 ·simp only [Nd.order, Nd.orders, List.mem_singleton] at hi
  simp [Ar.fresh, hi]
section
variable {A : Ar} {top : Nd}
theorem Abs.pnd (h : Abs A top) : (post A 0 top).Nodup := (List.nodup_append.1 h.nd).1
theorem Abs.size_le (h : Abs A top) : top.size ≤ 100000 := by have := h.len; have := h.cap; omega
theorem Abs.cases (h : Abs A top) (i : Int) : (A.at_ i = none ∧ i ∉ top.order) ∨ ∃ q : Nat, A.at_ i = some (q : Int) ∧ q ∈ post A 0 top ∧ A.idAt q = i ∧ i ∈ top.order := by
 by_cases hi : i ∈ top.order
 ·obtain ⟨j, hj, e⟩ := h.tr.of_mem hi
  exact .inr ⟨j, by rw [← e]; exact h.at_ j hj, hj, e, hi⟩
 ·exact .inl ⟨h.atn i hi, hi⟩
theorem Abs.at_mem (h : Abs A top) {i : Int} {q : Nat} (hq : A.at_ i = some (q : Int)) : q ∈ post A 0 top ∧ A.idAt q = i ∧ i ∈ top.order := by
 rcases h.cases i with ⟨e, _⟩ | ⟨r, e, h1, h2, h3⟩
 ·rw [e] at hq; cases hq
 ·rw [e] at hq
  injection hq with hq
  have : r = q := by omega
  subst this
  exact ⟨h1, h2, h3⟩
theorem Abs.at_iff (h : Abs A top) (i : Int) : (A.at_ i).isSome = true ↔ i ∈ top.order := by
 rcases h.cases i with ⟨e, e2⟩ | ⟨r, e, h1, h2, h3⟩
 ·rw [e]; simp [e2]
 ·rw [e]; simp [h3]
theorem Abs.root (h : Abs A top) : Ch A 0 [0] := by
 obtain ⟨hi, _, _, h3, _⟩ := h.tr.ex
 exact Ch.top hi (by rw [h3]; decide)
theorem Abs.up (h : Abs A top) {q : Nat} (hq : q ∈ post A 0 top) : ∃ l, Ch A q l ∧ Nd.depth (A.idAt q) top = (l.length : Int) - 1 ∧ 0 < l.length := by
 obtain ⟨l', h1, h2⟩ := h.tr.up h.od hq h.root
 exact ⟨l' ++ [0], h1, by rw [h2, List.length_append, List.length_singleton]; omega, by simp⟩
theorem Abs.ne0 (h : Abs A top) {q : Nat} (hq : q ∈ post A 0 top) : A.idAt q = 0 ↔ q = 0 := by
 constructor
 ·intro e
  exact h.tr.inj h.od hq (self_post A 0 top) (by rw [e, h.tr.idAt, h.id0])
 ·rintro rfl
  rw [h.tr.idAt, h.id0]
theorem Abs.whr (h : Abs A top) {q : Nat} (hq : q ∈ post A 0 top) (h0 : q ≠ 0) : ∃ y ∈ post A 0 top, ∃ k : Nat, Lies A q y k ∧ Nd.whr (A.idAt q) top = some (A.idAt y, (k : Int)) := h.tr.whr h.od hq h0
theorem whr_root (n : Nd) (ho : n.order.Nodup) : Nd.whr n.id n = none := by
 cases n with | mk j g ks =>
 rw [Nd.order, List.nodup_cons] at ho
 have : ∀ (l : List Nd), j ∉ Nd.orders l → ∀ a m, Nd.whrs j a m l = none := by
  intro l
  induction l with
  | nil => intro _ a m; rfl
  | cons k ks ih =>
   intro hk a m
   simp only [Nd.orders, List.mem_append, not_or] at hk
   rw [Nd.whrs, if_neg (fun e => hk.1 (by rw [← e]; exact Nd.id_mem k)), Nd.whr_none _ _ hk.1, ih hk.2]; rfl
 rw [Nd.whr]
 exact this ks ho.1 j 0
theorem Abs.foc (h : Abs A top) {q : Nat} (hq : q ∈ post A 0 top) : ∃ qp np R RO, Foc A (-1) 0 top q qp np R RO := h.tr.focus h.od hq
theorem Foc.id {p : Int} {i q : Nat} {nd np : Nd} {qp : Int} {R : List Nat} {RO : List Int} (f : Foc A p i nd q qp np R RO) : A.idAt q = np.id := f.tr.idAt
theorem Foc.mem {p : Int} {i q : Nat} {nd np : Nd} {qp : Int} {R : List Nat} {RO : List Int} (f : Foc A p i nd q qp np R RO) {x : Nat} (hx : x ∈ post A q np) : x ∈ post A i nd := f.perm.mem_iff.2 (List.mem_append.2 (.inl hx))
theorem Foc.memR {p : Int} {i q : Nat} {nd np : Nd} {qp : Int} {R : List Nat} {RO : List Int} (f : Foc A p i nd q qp np R RO) {x : Nat} (hx : x ∈ R) : x ∈ post A i nd := f.perm.mem_iff.2 (List.mem_append.2 (.inr hx))
theorem Foc.dis {p : Int} {i q : Nat} {nd np : Nd} {qp : Int} {R : List Nat} {RO : List Int} (f : Foc A p i nd q qp np R RO) (hn : (post A i nd).Nodup) {x : Nat} (hx : x ∈ post A q np) : x ∉ R := dis_of_nodup (f.perm.nodup_iff.1 hn) hx
theorem Abs.below (h : Abs A top) {p i : Nat} {l : List Nat} {qi : Int} {n : Nd} {R : List Nat} {RO : List Int} (hp : p ∈ post A 0 top) (hl : Ch A p l) (f : Foc A (-1) 0 top i qi n R RO) : i ∈ l ↔ p ∈ post A i n := by
 constructor
 ·intro hi
  have hnd : n.order.Nodup := (List.nodup_append.1 (f.order.nodup_iff.1 h.od)).1
  induction hl with
  | top hj hp' =>
   rw [List.mem_singleton] at hi
   subst hi
   exact self_post A _ n
  | up hj hp' hl ih =>
   rename_i p y l
   rcases List.mem_cons.1 hi with rfl | hi
   ·exact self_post A _ n
   ·-- the parent
    have h0 : p ≠ 0 := by
     rintro rfl
     obtain ⟨_, _, _, h3, _⟩ := h.tr.ex
     rw [h3] at hp'; omega
    obtain ⟨y', hy', k, ⟨hx1, hy1, e1, e2, e3⟩, _⟩ := h.whr hp h0
    have : y' = y := by rw [e1] at hp'; omega
    subst this
    have hyn := ih hy' hi
    obtain ⟨q, e, hq, _⟩ := f.tr.kid_in hyn hy1 (List.mem_of_getElem? e2)
    have : q = p := by omega
    subst this
    exact hq
 ·intro hp'
  have hnd : n.order.Nodup := (List.nodup_append.1 (f.order.nodup_iff.1 h.od)).1
  have hi : i ∈ post A 0 top := f.mem (self_post A i n)
  obtain ⟨li, hli, _, hpos⟩ := h.up hi
  obtain ⟨l', h1, _⟩ := f.tr.up hnd hp' hli
  rw [hl.eq h1]
  refine List.mem_append.2 (.inr ?_)
  cases hli <;> exact List.mem_cons_self
end
end Go.Tr

namespace Go.Tr
open Go.Sl Go.Ls
namespace Nd
mutual
def walk (d : Int) : Nd → List (Int × Nd) | .mk i g ks => (d, .mk i g ks) :: walks (d + 1) ks
def walks (d : Int) : List Nd → List (Int × Nd) | [] => [] | k :: ks => walk d k ++ walks d ks
end
theorem walks_app (d : Int) : ∀ (a b : List Nd), walks d (a ++ b) = walks d a ++ walks d b
 | [], b => by simp [walks]
 | x :: a, b => by simp only [List.cons_append, walks, walks_app d a b, List.append_assoc]
theorem walk_eq (d : Int) (n : Nd) : n.walk d = (d, n) :: walks (d + 1) n.kids := by cases n; rfl
theorem walk_len (n : Nd) : ∀ d : Int, (n.walk d).length = n.size := by
 refine Nd.rec (motive_1 := fun n => ∀ d : Int, (n.walk d).length = n.size) (motive_2 := fun l => ∀ d : Int, (walks d l).length = sizes l) ?_ ?_ ?_ n
 ·intro i g ks ih d
  simp only [walk, size, List.length_cons, ih]; omega
 ·intro d; rfl
 ·intro k ks h1 h2 d
  simp only [walks, sizes, List.length_append, h1, h2]
end Nd
def NdAtB (I : Mem) (b off : Nat) (n : Nd) : Prop := ∃ kv, Sl.At I b off [vi n.id, .bool n.grp, kv] ∧ LsAt Nd.Rp I n.kids kv ∧ I64 n.id
theorem NdAtB.mono {I I' : Mem} {b off : Nat} {n : Nd} (h : NdAtB I b off n) (hI : I.le I') : NdAtB I' b off n := by
 obtain ⟨kv, h1, h2, h3⟩ := h
 exact ⟨kv, h1.mono hI, h2.mono hI, h3⟩
theorem NdAtB.kid {I : Mem} {l : List Nd} {kv : Value} (h : LsAt Nd.Rp I l kv) (k : Nat) (hk : k < l.length) : ∃ b off cap, kv = .slice (some ⟨b, off, none⟩) l.length cap ∧ NdAtB I b (off + (k : Int).toNat * 3) l[k] := by
 obtain ⟨b, off, cap, cs, hv, hR, hA⟩ := h.get k hk
 obtain ⟨h1, kw, rfl, h3⟩ := Nd.rep_iff.1 hR
 exact ⟨b, off, cap, hv, kw, hA, h3, h1⟩
def Yld (P : Program) (l : Nat) (tot : List (Int × Nd)) (J Jx : List (Int × Nd) → Mem → List HP → Prop) : Prop :=
 ∀ pre d n b off I L, J pre I L → NdAtB I b off n → (pre ++ [(d, n)]) <+: tot → YieldC P l [vi d, .pointer (some ⟨b, off, none⟩)] I L (fun v I' L' => (v = .bool true ∧ J (pre ++ [(d, n)]) I' L') ∨ (v = .bool false ∧ Jx (pre ++ [(d, n)]) I' L'))
end Go.Tr
namespace Go.Proofs.YtggcpoleklcmkaaGreatDoor
open Go.Sl Go.Ls Go.Tr
attribute [local irreducible] WCI WLI YieldC roundPost bodyM Code.wpIn
theorem pre_of_pre {α : Type} {a b c : List α} (h : (a ++ b) <+: c) : a <+: c := (List.prefix_append a b).trans h
theorem tVisit (l : Nat) (tot : List (Int × Nd)) (J Jx : List (Int × Nd) → Mem → List HP → Prop) (hY : Yld Tryz.prog l tot J Jx) (N : Nat) : ∀ (nd : Nd), nd.size ≤ N → ∀ (d : Int) (b off : Nat) (pre : List (Int × Nd)) (I : Mem) (LJ : List HP),
  nd.size ≤ 1000000000 → -1000 ≤ d → d + nd.size ≤ 1099511627776 → NdAtB I b off nd → (pre ++ nd.walk d) <+: tot → J pre I LJ →
  Ctr Tryz.prog 176 [.pointer (some ⟨b, off, none⟩), vi d, yv l] I LJ (fun v I' L' => (v = .bool true ∧ J (pre ++ nd.walk d) I' L') ∨ (v = .bool false ∧ ∃ q, q <+: (pre ++ nd.walk d) ∧ Jx q I' L')) := by
 induction N with
 | zero => intro nd h; have := nd.size_pos; omega
 | succ N ih =>
  intro nd hs d b off pre I LJ hb hd0 hd1 hn htot hJ
  have hsz := sizes_lt nd
  have hll := Nd.len_le_sizes nd.kids
  have hwk := Nd.walk_eq d nd
  refine Ctr.intro Tryz.func176 rfl rfl rfl fun E F => ?_
  obtain ⟨kv, hA, hkv, h64⟩ := hn
  obtain ⟨ka, kc, rfl⟩ := hkv.sl
  have hpp : pre ++ nd.walk d = (pre ++ [(d, nd)]) ++ Nd.walks (d + 1) nd.kids := by rw [hwk, List.append_assoc]; rfl
  refine jS (jg rfl (jM (jB (jB (WC.regionI ?_)))))
  refine WLI.val (Val.moveF rfl) rfl ?_
  refine WLI.val (Val.moveI rfl) rfl ?_
  refine WLI.val (Val.moveP rfl) rfl ?_
  refine WLI.yield rfl rfl (hY pre d nd b off I LJ hJ ⟨_, hA, hkv, h64⟩ (pre_of_pre (by rw [← hpp]; exact htot))) rfl ?_
  rintro v I1 L1 hI1 (⟨rfl, hJ1⟩ | ⟨rfl, hJ1⟩)
  case inr =>
   refine WLI.of ?_
   refine jl rfl (jM (jF (jS (jg rfl (jM (jR (jU ?_)))))))
   refine WX.doneF (RunRes.r1 rfl (ResIs.tmp rfl)) hI1 (.inr ⟨rfl, _, ?_, hJ1⟩)
   rw [hpp]
   exact List.prefix_append _ _
  refine WLI.of ?_
  have hA1 := hA.mono hI1
  refine jl rfl (jM (jE (jV (jA (jB (jS (jd rfl (jm (jr rfl) (jm (jn rfl) (jm (Val.loadS rfl (Rd.imm (At.one (by assumption) rfl))) ?_))))))))))
  refine jm (jo rfl) (ja rfl (jM (WC.block ?_)))
  refine WC.loop (fun m ρ' I' L' => ∃ (k : Nat) (LJ' : List HP), m = nd.kids.length - k ∧ k ≤ nd.kids.length ∧ I.le I' ∧ ρ' 0 = .pointer (some ⟨b, off, none⟩) ∧ ρ' 1 = vi d ∧ ρ' 2 = yv l ∧ ρ' 17 = vi nd.kids.length ∧ ρ' 18 = vi k ∧ L' = F :: LJ' ∧ J (pre ++ (d, nd) :: Nd.walks (d + 1) (nd.kids.take k)) I' LJ')
   nd.kids.length ⟨0, L1, rfl, by omega, hI1, rfl, rfl, rfl, rfl, rfl, rfl, hJ1⟩ ?_
  rintro m ρ' I0 L' ⟨k, LJ', rfl, hk, hI, h0, h1, h2, h17, h18, rfl, hJk⟩
  refine ju5 h18 h17 h2 h1 h0 ?_
  by_cases hkn : k < nd.kids.length
  ·have hA0 := hA.mono hI
   obtain ⟨kb, ko, kcap, hke, hkid⟩ := NdAtB.kid (hkv.mono hI) k hkn
   injection hke with hke
   subst hke
   have hbk := kid_sz hkn
   have htk : Nd.walks (d + 1) (nd.kids.take (k + 1)) = Nd.walks (d + 1) (nd.kids.take k) ++ nd.kids[k].walk (d + 1) := by rw [take1 _ _ hkn, Nd.walks_app]; simp [Nd.walks]
   have htot2 : ((pre ++ (d, nd) :: Nd.walks (d + 1) (nd.kids.take k)) ++ nd.kids[k].walk (d + 1)) <+: (pre ++ nd.walk d) := by
    rw [hwk]
    have : nd.kids = nd.kids.take (k + 1) ++ nd.kids.drop (k + 1) := (List.take_append_drop _ _).symm
    rw [show Nd.walks (d + 1) nd.kids = Nd.walks (d + 1) (nd.kids.take (k + 1)) ++ Nd.walks (d + 1) (nd.kids.drop (k + 1)) by rw [← Nd.walks_app, ← this], htk]
    exact ⟨Nd.walks (d + 1) (nd.kids.drop (k + 1)), by simp only [List.append_assoc, List.cons_append]⟩
   refine jS (jy rfl rfl (jM (jB (jF (jV (jA (jB (WC.block (jS (ja rfl (jf rfl (jN (jd rfl (jm (jr rfl) (jm (jn rfl) (jm (Val.loadS rfl (Rd.imm (At.one (by assumption) rfl))) ?_))))))))))))))))
   refine ja rfl (jm (jZ rfl rfl) (ja rfl (jX rfl rfl (jm (Val.moveF rfl) (WL.callAll rfl rfl (ih _ (kid_lt hs hkn) (d + 1) kb _ _ I0 LJ' (by omega) (by omega) (by omega) hkid (htot2.trans htot) hJk) rfl ?_)))))
   rintro v I2 L2 hI2 (⟨rfl, hJ2⟩ | ⟨rfl, q, hq, hJ2⟩)
   ·skip
    refine jl rfl (jM (jE (jV (WX.inNormal (jA (jD (jX rfl rfl (ja rfl (jC ?_)))))))))
    refine WX.thenK (WK.round (nd.kids.length - (k + 1)) (by omega) ⟨k + 1, L2, rfl, by omega, hI.trans hI2, rfl, rfl, rfl, rfl, rfl, rfl, ?_⟩)
    rw [htk]
    simpa only [List.append_assoc, List.cons_append] using hJ2
   ·skip
    exact jl rfl (jM (jF (jS (jg rfl (jM (jR (WX.inRet (jU (jU (WX.inRet (jU (WX.doneF (RunRes.r1 rfl (ResIs.tmp rfl)) (hI.trans hI2) (.inr ⟨rfl, q, hq.trans htot2, hJ2⟩)))))))))))))
  ·skip
   refine jS (jx rfl rfl (jM (jB (jE (WC.exit (WX.thenExit (WX.thenExit (WX.inHit (jK (jg rfl (jM (jR ?_))))))))))))
   refine WX.doneF (RunRes.r1 rfl (ResIs.tmp rfl)) hI (.inl ⟨rfl, ?_⟩)
   have : k = nd.kids.length := by omega
   subst this
   rw [List.take_length] at hJk
   rw [hwk]
   exact hJk
theorem tWalk (p : Value) (d : Int) (I : Mem) (b off : Nat) (hp : p = .pointer (some ⟨b, off, none⟩)) :
  Ctr Tryz.prog 164 [p, vi d] I [] (fun v I' L' => L' = [] ∧ ∃ g h, v = .func (.func 175) #[] #[ptr g, ptr h] ∧ Sl.At I' g 0 [p] ∧ Sl.At I' h 0 [vi d]) := by
 subst hp
 refine Ctr.intro Tryz.func164 rfl rfl rfl fun E F => ?_
 refine jS (WL.box rfl rfl (fun _ => ?_))
 refine jW ?_
 refine WL.box rfl rfl (fun _ => ?_)
 refine jW ?_
 refine WL.val Val.assign rfl ?_
 refine jN (WL.val Val.makeFuncL rfl ?_)
 refine jm (Val.assignF rfl) (jM (jR ?_))
 rename_i g h
 refine WX.boxFrz 1 rfl fun I1 hI1 hA1 => ?_
 refine WX.boxFrz 1 rfl fun I2 hI2 hA2 => ?_
 refine WX.doneF (RunRes.r1 rfl (ResIs.tmp rfl)) (hI1.trans hI2) ⟨rfl, g, h, rfl, hA1.mono hI2, hA2⟩
theorem tSeq (l : Nat) (J Jx : List (Int × Nd) → Mem → List HP → Prop) (nd : Nd) (d : Int) (b off g h : Nat) (I : Mem) (LJ : List HP) (hY : Yld Tryz.prog l (nd.walk d) J Jx)
  (hb : nd.size ≤ 1000000000) (hd0 : -1000 ≤ d) (hd1 : d + nd.size ≤ 1099511627776) (hn : NdAtB I b off nd) (hg : Sl.At I g 0 [.pointer (some ⟨b, off, none⟩)]) (hh : Sl.At I h 0 [vi d]) (hJ : J [] I LJ) :
  Ctr Tryz.prog 175 [yv l, ptr g, ptr h] I LJ (fun v I' L' => J (nd.walk d) I' L' ∨ ∃ q, q <+: nd.walk d ∧ Jx q I' L') := by
 refine Ctr.intro Tryz.func175 rfl rfl rfl fun E F => ?_
 refine jD (jm (Val.loadS rfl (Rd.imm (by assumption))) ?_)
 refine jm (Val.loadS rfl (Rd.imm (by assumption))) ?_
 refine jm (Val.moveF rfl) (WL.callAll rfl rfl (tVisit l _ J Jx hY _ nd (Nat.le_refl _) d b off [] I LJ hb hd0 hd1 hn (List.prefix_rfl) hJ) rfl ?_)
 rintro v I2 L2 hI2 (⟨rfl, hJ2⟩ | ⟨rfl, q, hq, hJ2⟩)
 ·skip
  exact jC (WX.doneFN (RunRes.r0 rfl) hI2 (.inl hJ2))
 ·skip
  exact jC (WX.doneFN (RunRes.r0 rfl) hI2 (.inr ⟨q, hq, hJ2⟩))
attribute [local irreducible] WC WL WX WK WA WAK Val Ctr RunRes ResIs Rd At sl box pt Exit.then Exit.inBlock bodyPost Code.wp wpList
theorem tSize (nd : Nd) (kv : Value) (I : Mem) (hb : nd.size ≤ 1000000000) (hid : I64 nd.id) (hkv : LsAt Nd.Rp I nd.kids kv) :
  Ctr Tryz.prog 163 [.agg #[vi nd.id, .bool nd.grp, kv]] I [] (KeepR [] fun v I' => v = vi nd.size) := by
 obtain ⟨ka, kc, rfl⟩ := hkv.sl
 have hwl := Nd.walk_len nd 0
 refine Ctr.introM Tryz.func163 rfl rfl rfl fun E F => ?_
 refine jS (WL.boxA rfl rfl (fun _ => ?_))
 refine jW ?_
 refine jf rfl (jN (WL.alloc rfl (fun _ => ?_)))
 refine jW ?_
 refine WL.stI 2 rfl rfl rfl rfl ?_
 refine jM (jB (jS ?_))
 rename_i g1 g3
 refine WL.boxFrz 1 rfl fun I1 hI1 hA1 => ?_
 have hn : NdAtB I1 g1 0 nd := ⟨_, hA1, hkv.mono hI1, hid⟩
 refine WL.callP [] rfl rfl (tWalk _ 0 I1 g1 0 rfl) rfl ?_
 rintro v I2 L2 hI2 ⟨rfl, g, h, rfl, hg, hh⟩
 refine jW ?_
 refine jM (WC.block ?_)
 refine WC.rangeFunc rfl rfl (fun I' L' => L' = [box g3 3 [vi nd.size]]) (fun _ _ _ => False) ?_ ?_ ?_
 ·intro D l r hr
  refine (tSeq l (fun pre I' L' => L' = lp l (r .ready none) :: dp D :: [box g3 3 [vi pre.length]]) (fun _ _ _ => False) nd 0 g1 0 g h I2 _ ?_ hb (by decide) (by omega) (hn.mono hI2) hg hh rfl).mono ?_
  ·intro pre d n b off I' L' hJ hnb hpre
   subst hJ
   have hlen : (pre ++ [(d, n)]).length ≤ nd.size := by rw [← hwl]; exact hpre.length_le
   rw [List.length_append, List.length_singleton] at hlen
   refine YieldC.of_body hr rfl rfl fun E F => ?_
   refine WCI.skip ?_
   refine WX.begin hr ?_
   refine WCI.block ?_
   refine WCI.region ?_
   refine jm (jp 3 rfl rfl rfl) (jX rfl rfl (WL.stI 3 rfl rfl rfl rfl ?_))
   refine jC (WX.inNormal ?_)
   refine WX.roundGo hr (Mem.le.refl _) (.inl ⟨rfl, ?_⟩)
   show _ = [lp l (r .ready none), dp D, box g3 3 [vi ((pre ++ [(d, n)]).length : Nat)]]
   rw [List.length_append, List.length_singleton]
   rfl
  ·rintro v I' L' hI' (rfl | ⟨q, _, hq⟩)
   ·exact .inl ⟨_, rfl, by rw [hwl]⟩
   ·exact hq.elim
 ·rintro D I' L1 hI' rfl
  exact WX.inNormal (jK (jm (jp 2 rfl rfl rfl) (jf rfl (jM (jR (WX.doneM (RunRes.r1 rfl (ResIs.tmp rfl)) [] (hI1.trans (hI2.trans hI')) ⟨rfl, rfl⟩))))))
 ·intro D c I' L1 hI' h
  exact h.elim
end Go.Proofs.YtggcpoleklcmkaaGreatDoor

namespace Go.Tr
open Go.Sl Go.Ls
namespace Nd
end Nd
end Go.Tr
namespace Go.Proofs.YtggcpoleklcmkaaGreatDoor
open Go.Sl Go.Ls Go.Tr
end Go.Proofs.YtggcpoleklcmkaaGreatDoor

namespace Go.Tr
open Go.Sl Go.Ls
namespace Nd
def chk (top : Nd) : List (Int × Nd) → List Int → Int
 | [], _ => 0
 | x :: l, seen => if x.2.id < 1 ∨ 2147483648 < x.2.id then 30 else if (find x.2.id top).isSome = true then 32 else if x.2.id ∈ seen then 32 else if x.2.grp = false ∧ 0 < x.2.kids.length then 33 else if 64 < x.1 then 35 else chk top l (seen ++ [x.2.id])
theorem chk_walk (top : Nd) (n : Nd) : ∀ (d : Int) (seen : List Int) (rest : List (Int × Nd)), chk top (n.walk d ++ rest) seen = if (wrong top n seen d).1 = 0 then chk top rest (wrong top n seen d).2 else (wrong top n seen d).1 := by
 refine Nd.rec (motive_1 := fun n => ∀ (d : Int) (seen : List Int) (rest : List (Int × Nd)), chk top (n.walk d ++ rest) seen = if (wrong top n seen d).1 = 0 then chk top rest (wrong top n seen d).2 else (wrong top n seen d).1)
  (motive_2 := fun l => ∀ (d : Int) (seen : List Int) (rest : List (Int × Nd)), chk top (walks d l ++ rest) seen = if (wrongs top l seen d).1 = 0 then chk top rest (wrongs top l seen d).2 else (wrongs top l seen d).1) ?_ ?_ ?_ n
 ·intro i g ks ih d seen rest
  simp only [walk, List.cons_append, chk, wrong, id, grp, kids]
  by_cases h1 : i < 1 ∨ 2147483648 < i
  ·simp only [h1, if_true]; rfl
  ·simp only [h1, if_false]
   by_cases h2 : (find i top).isSome = true
   ·simp only [h2, if_true]; rfl
   ·simp only [h2, Bool.false_eq_true, if_false]
    by_cases h3 : i ∈ seen
    ·simp only [h3, if_true]; rfl
    ·simp only [h3, if_false]
     by_cases h4 : g = false ∧ 0 < ks.length
     ·simp only [h4, and_self, if_true]; rfl
     ·simp only [h4, if_false]
      by_cases h5 : 64 < d
      ·simp only [h5, if_true]; rfl
      ·simp only [h5, if_false]
       exact ih (d + 1) (seen ++ [i]) rest
 ·intro d seen rest
  simp [walks, wrongs]
 ·intro k ks h1 h2 d seen rest
  simp only [walks, List.append_assoc, wrongs, h1]
  by_cases h : (wrong top k seen d).1 = 0
  ·simp only [h, if_true, h2]
  ·simp only [h, if_false]
theorem chk_all (top n : Nd) (d : Int) : chk top (n.walk d) [] = (wrong top n [] d).1 := by
 have := chk_walk top n d [] []
 rw [List.append_nil] at this
 rw [this]
 by_cases h : (wrong top n [] d).1 = 0
 ·rw [if_pos h, h]; rfl
 ·rw [if_neg h]
end Nd
abbrev idl (l : List (Int × Nd)) : List Int := l.map (fun x => x.2.id)
def Fine (top : Nd) (pre : List (Int × Nd)) : Prop := ∀ rest, Nd.chk top (pre ++ rest) [] = Nd.chk top rest (idl pre)
theorem Fine.nil (top : Nd) : Fine top [] := fun _ => rfl
def seenF (l : List (Int × Nd)) : Int → Option Value := fun k => if k ∈ idl l then some (.bool true) else none
theorem seenF_snoc (l : List (Int × Nd)) (d : Int) (n : Nd) : seenF (l ++ [(d, n)]) = Sl.put (seenF l) n.id (.bool true) := by
 funext k
 unfold seenF Sl.put
 by_cases h : k = n.id
 ·subst h; simp [idl]
 ·have : (k ∈ idl (l ++ [(d, n)])) ↔ k ∈ idl l := by simp [idl, h]
  simp only [this, h, if_false]
end Go.Tr
namespace Go.Proofs.YtggcpoleklcmkaaGreatDoor
open Go.Sl Go.Ls Go.Tr
instance : MapK Tryz.prog 242 (.bool false) := ⟨by kernel_rfl⟩
theorem tFits (A : Ar) (top : Nd) (hA : Abs A top) (nd : Nd) (kv : Value) (d : Int) (I : Mem) (hb : nd.size ≤ 1000000000) (hid : I64 nd.id) (hkv : LsAt Nd.Rp I nd.kids kv) (hd0 : -1000 ≤ d) (hd1 : d ≤ 1000000000) :
  Ctr Tryz.prog 141 [ptr A.b, .agg #[vi nd.id, .bool nd.grp, kv], vi d] I A.hp (KeepR A.hp fun v I' => v = vi (Nd.fits top nd d)) := by
 obtain ⟨ka, kc, rfl⟩ := hkv.sl
 have hwl := Nd.walk_len nd d
 have hcnt := hA.cnt
 have hts := hA.size_le
 refine Ctr.introM Tryz.func141 rfl rfl rfl fun E F => ?_
 refine jS (WL.box rfl rfl (fun _ => ?_))
 refine jW ?_
 refine WL.boxA rfl rfl (fun _ => ?_)
 refine jW ?_
 refine WL.alloc rfl (fun _ => ?_)
 refine jW ?_
 refine jM (jB (jB ?_))
 rename_i g3 g4 g6
 refine WC.boxFrz 6 rfl fun I1 hI1 (hA1 : Sl.At I1 g3 0 [ptr A.b]) => ?_
 refine WC.boxFrz 6 rfl fun I2 hI2 hA2 => ?_
 have hA3 := hA1.mono hI2
 clear hA1
 have hn : NdAtB I2 g4 0 nd := ⟨_, hA2, hkv.mono (hI1.trans hI2), hid⟩
 refine j8 999 [] rfl (jT 0 rfl (Val.loadS rfl (Rd.imm (by assumption))) ?_)
 refine jT 2 rfl (Val.loadI rfl (by assumption) rfl) ?_
 refine j5 1 rfl (WL.callK [1, 1, 1, 1, 1] rfl rfl rfl (tCount A _ (by omega)) rfl ?_)
 rintro _ rfl
 refine jC (j7 [] rfl (j5 3 rfl (WL.callR [] rfl rfl rfl (tSize nd _ I2 hb hid (hkv.mono (hI1.trans hI2))) rfl ?_)))
 rintro _ I3 hI3 rfl
 refine jC (j9 [] (hI3) rfl (jT 4 rfl (Val.add rfl rfl (wrap_i64 (by omega) (by omega))) ?_))
 by_cases hbig : 65536 < (top.size : Int) - 1 + nd.size
 ·skip
  refine jT 5 rfl (Val.gtr rfl rfl (decide_eq_true (by omega))) ?_
  refine j6 (jA (jF (jS (WL.stI 6 rfl rfl rfl rfl ?_))))
  refine jM (jR (jU ?_))
  refine WX.doneM0 (RunRes.r1 rfl (ResIs.cellS rfl (Rd.own1 6 rfl rfl))) [0, 0, 0, 0, 0] (hI1.trans (hI2.trans hI3)) ⟨rfl, ?_⟩
  rw [Nd.fits, if_pos hbig]
 refine jT 5 rfl (Val.gtr rfl rfl (decide_eq_false (by omega))) ?_
 refine j6 (jA (jE (jV (jK (WL.makeMap rfl fun mb => ?_)))))
 refine jW ?_
 refine WL.alloc rfl (fun _ => ?_)
 refine jW ?_
 refine WL.stM 8 rfl rfl rfl rfl ?_
 refine jM (jB (jS (ja rfl ?_)))
 rename_i g7
 refine WL.callP [] rfl rfl (tWalk _ d I3 g4 0 rfl) rfl ?_
 rintro v I4 L2 hI4 ⟨rfl, g, h, rfl, hg, hh⟩
 refine jW ?_
 refine jM (WC.block ?_)
 have hA5 := hA3.mono (hI3.trans hI4)
 have hfit : Nd.fits top nd d = Nd.chk top (nd.walk d) [] := by rw [Nd.chk_all, Nd.fits, if_neg hbig]
 refine WC.rangeFunc rfl rfl (fun I' L' => Fine top (nd.walk d) ∧ L' = A.on [box g6 41 [vi 0], mp mb (seenF (nd.walk d)) (nd.walk d).length, box g7 242 [.map (some mb)]])
  (fun c I' L' => c = .ret ∧ ∃ p, L' = A.on [box g6 41 [vi (Nd.fits top nd d)], p, box g7 242 [.map (some mb)]]) ?_ ?_ ?_
 ·intro D l r hr
  refine (tSeq l (fun pre I' L' => I4.le I' ∧ Fine top pre ∧ L' = lp l (r .ready none) :: dp D :: A.on [box g6 41 [vi 0], mp mb (seenF pre) pre.length, box g7 242 [.map (some mb)]])
   (fun q I' L' => ∃ e p, (∀ rest, Nd.chk top (q ++ rest) [] = e) ∧ L' = lp l (r .done (some .ret)) :: dp D :: A.on [box g6 41 [vi e], p, box g7 242 [.map (some mb)]]) nd d g4 0 g h I4 _ ?_ hb (by omega) (by omega) (hn.mono (hI3.trans hI4)) hg hh ⟨Mem.le.refl _, Fine.nil top, ?_⟩).mono ?_
  ·rintro pre d n b off I' L' ⟨hI', hfine, rfl⟩ ⟨kw, hA', hkw, h64⟩ hpre
   have hlen : (pre ++ [(d, n)]).length ≤ nd.size := by rw [← hwl]; exact hpre.length_le
   rw [List.length_append, List.length_singleton] at hlen
   obtain ⟨wa, wc, rfl⟩ := hkw.sl
   have hA6 := hA5.mono hI'
   have hst : ∀ rest, Nd.chk top ((pre ++ [(d, n)]) ++ rest) [] = Nd.chk top ((d, n) :: rest) (idl pre) := fun rest => by rw [List.append_assoc]; exact hfine _
   refine YieldC.of_body hr rfl rfl fun E F => ?_
   refine WCI.seq ?_
   refine WCI.region ?_
   refine jf rfl (jC (WX.thenI ?_))
   refine WCI.region ?_
   refine ji rfl (jC (WX.begin hr ?_))
   refine WCI.block ?_
   refine WCI.seq ?_
   refine j8I 999 [] rfl (jT 0 rfl (Val.loadS rfl (Rd.imm (by assumption))) ?_)
   refine jT 1 rfl (Val.moveP rfl) (jT 2 rfl (jr rfl) (jT 3 rfl (jn rfl) (jT 4 rfl (Val.loadS rfl (Rd.imm (At.zero (by assumption) rfl))) ?_)))
   refine j5 5 rfl (WL.callK [3, 3, 3, 3, 3] rfl rfl rfl (tFind A n.id _) rfl ?_)
   rintro _ rfl
   refine jC (j7 [] rfl (jT 6 rfl (Val.moveT rfl) (jT 7 rfl (jq rfl rfl) (jT 8 rfl (Val.extractB rfl rfl) (jT 9 rfl (Val.assignI rfl) (jT 10 rfl (Val.assignB rfl) (j6 ?_)))))))
   by_cases c1 : n.id < 1
   ·skip
    refine WX.thenI ?_
    refine WCI.seq ?_
    refine WCI.block ?_
    refine WCI.seq ?_
    refine WCI.region ?_
    refine jd rfl (jm (jr rfl) (jm (jn rfl) (jm (Val.loadS rfl (Rd.imm (At.zero (by assumption) rfl))) ?_)))
    refine jy rfl rfl (jb rfl (jH (jH (jH (jH (jH (jk rfl (jg rfl (jC (WX.thenI ?_))))))))))
    refine WCI.condT rfl ?_
    refine WCI.seq ?_
    refine WCI.region ?_
    refine WL.stI 8 rfl rfl rfl rfl ?_
    refine jC (WX.thenI ?_)
    refine WCI.ret ?_
    refine WX.inRet (jU (WX.inRet ?_))
    refine WX.roundRet hr (Mem.le.refl _) (.inr ⟨rfl, 30, _, fun rest => ?_, rfl⟩)
    rw [hst, Nd.chk, if_pos (.inl c1)]
   by_cases c2 : 2147483648 < n.id
   ·skip
    refine WX.thenI ?_
    refine WCI.seq ?_
    refine WCI.block ?_
    refine WCI.seq ?_
    refine WCI.region ?_
    refine jd rfl (jm (jr rfl) (jm (jn rfl) (jm (Val.loadS rfl (Rd.imm (At.zero (by assumption) rfl))) ?_)))
    refine jx rfl rfl (jb rfl (jG (jd rfl (jG (jm (jr rfl) (jG (jm (jn rfl) (jG (jm (Val.loadS rfl (Rd.imm (At.zero (by assumption) rfl))) ?_)))))))))
    refine jG (jO rfl rfl (jk rfl (jg rfl (jC (WX.thenI ?_)))))
    refine WCI.condT rfl ?_
    refine WCI.seq ?_
    refine WCI.region ?_
    refine WL.stI 8 rfl rfl rfl rfl ?_
    refine jC (WX.thenI ?_)
    refine WCI.ret ?_
    refine WX.inRet (jU (WX.inRet ?_))
    refine WX.roundRet hr (Mem.le.refl _) (.inr ⟨rfl, 30, _, fun rest => ?_, rfl⟩)
    rw [hst, Nd.chk, if_pos (.inr c2)]
   have hn1 : ¬ (n.id < 1 ∨ 2147483648 < n.id) := by omega
   have hfs : (Nd.find n.id top).isSome = (A.at_ n.id).isSome := by rw [Bool.eq_iff_iff, hA.at_iff, Nd.find_some]
   cases hth : (A.at_ n.id).isSome
   case true =>
    rw [hth] at hfs
    refine WX.thenI ?_
    refine WCI.seq ?_
    refine WCI.block ?_
    refine WCI.seq ?_
    refine WCI.region ?_
    refine jd rfl (jm (jr rfl) (jm (jn rfl) (jm (Val.loadS rfl (Rd.imm (At.zero (by assumption) rfl))) ?_)))
    refine jx rfl rfl (jb rfl (jG (jd rfl (jG (jm (jr rfl) (jG (jm (jn rfl) (jG (jm (Val.loadS rfl (Rd.imm (At.zero (by assumption) rfl))) ?_)))))))))
    refine jG (jL rfl rfl (jk rfl (jg rfl (jC (WX.thenI ?_)))))
    refine WCI.condF rfl ?_
    refine WCI.seq ?_
    refine j8I 999 [10, 9] rfl (jT 0 rfl (Val.moveB rfl) (jT 1 rfl (Val.moveB rfl) (jI 2 rfl (jI 3 rfl (jI 4 rfl (jI 5 rfl (jI 6 rfl (jI 7 rfl (jT 8 rfl (Val.pick rfl) (jT 9 rfl (Val.assignB rfl) (j6 (WX.thenI ?_))))))))))))
    refine WCI.condT rfl ?_
    refine WCI.seq ?_
    refine WCI.region ?_
    refine WL.stI 8 rfl rfl rfl rfl ?_
    refine jC (WX.thenI ?_)
    refine WCI.ret ?_
    refine WX.inRet (jU (WX.inRet ?_))
    refine WX.roundRet hr (Mem.le.refl _) (.inr ⟨rfl, 32, _, fun rest => ?_, rfl⟩)
    rw [hst, Nd.chk, if_neg hn1, if_pos hfs]
   rw [hth] at hfs
   have hfs' : ¬ (Nd.find n.id top).isSome = true := by rw [hfs]; decide
   by_cases c3 : n.id ∈ idl pre
   ·have hs : (seenF pre n.id).getD (.bool false) = .bool true := by rw [seenF, if_pos c3]; rfl
    refine WX.thenI ?_
    refine WCI.seq ?_
    refine WCI.block ?_
    refine WCI.seq ?_
    refine WCI.region ?_
    refine jd rfl (jm (jr rfl) (jm (jn rfl) (jm (Val.loadS rfl (Rd.imm (At.zero (by assumption) rfl))) ?_)))
    refine jx rfl rfl (jb rfl (jG (jd rfl (jG (jm (jr rfl) (jG (jm (jn rfl) (jG (jm (Val.loadS rfl (Rd.imm (At.zero (by assumption) rfl))) ?_)))))))))
    refine jG (jL rfl rfl (jk rfl (jg rfl (jC (WX.thenI ?_)))))
    refine WCI.condF rfl ?_
    refine WCI.seq ?_
    refine j8I 999 [10, 9] rfl (jT 0 rfl (Val.moveB rfl) (jT 1 rfl (Val.moveB rfl) (jT 2 rfl (jp 0 rfl rfl rfl) (jT 3 rfl (Val.moveP rfl) (jT 4 rfl (jr rfl) (jT 5 rfl (jn rfl) (jT 6 rfl (Val.loadS rfl (Rd.imm (At.zero (by assumption) rfl))) ?_)))))))
    refine jT 7 rfl (Val.to hs (Val.lookup1 1 rfl rfl rfl)) ?_
    refine jT 8 rfl (Val.pick rfl) (jT 9 rfl (Val.assignB rfl) (j6 (WX.thenI ?_)))
    refine WCI.condT rfl ?_
    refine WCI.seq ?_
    refine WCI.region ?_
    refine WL.stI 8 rfl rfl rfl rfl ?_
    refine jC (WX.thenI ?_)
    refine WCI.ret ?_
    refine WX.inRet (jU (WX.inRet ?_))
    refine WX.roundRet hr (Mem.le.refl _) (.inr ⟨rfl, 32, _, fun rest => ?_, rfl⟩)
    rw [hst, Nd.chk, if_neg hn1, if_neg hfs', if_pos c3]
   have hs : (seenF pre n.id).getD (.bool false) = .bool false := by rw [seenF, if_neg c3]; rfl
   have hs2 : (seenF pre n.id).isSome = false := by rw [seenF, if_neg c3]; rfl
   refine WX.thenI ?_
   refine WCI.seq ?_
   refine WCI.block ?_
   refine WCI.seq ?_
   refine WCI.region ?_
   refine jd rfl (jm (jr rfl) (jm (jn rfl) (jm (Val.loadS rfl (Rd.imm (At.zero (by assumption) rfl))) ?_)))
   refine jx rfl rfl (jb rfl (jG (jd rfl (jG (jm (jr rfl) (jG (jm (jn rfl) (jG (jm (Val.loadS rfl (Rd.imm (At.zero (by assumption) rfl))) ?_)))))))))
   refine jG (jL rfl rfl (jk rfl (jg rfl (jC (WX.thenI ?_)))))
   refine WCI.condF rfl ?_
   refine WCI.seq ?_
   refine j8I 999 [10, 9] rfl (jT 0 rfl (Val.moveB rfl) (jT 1 rfl (Val.moveB rfl) (jT 2 rfl (jp 0 rfl rfl rfl) (jT 3 rfl (Val.moveP rfl) (jT 4 rfl (jr rfl) (jT 5 rfl (jn rfl) (jT 6 rfl (Val.loadS rfl (Rd.imm (At.zero (by assumption) rfl))) ?_)))))))
   refine jT 7 rfl (Val.to hs (Val.lookup1 1 rfl rfl rfl)) ?_
   refine jT 8 rfl (Val.pick rfl) (jT 9 rfl (Val.assignB rfl) (j6 ?_))
   by_cases c4 : n.grp = false ∧ 0 < n.kids.length
   ·have c4a := c4.1
    have c4b := c4.2
    rw [c4a] at hA'
    refine WX.thenI ?_
    refine WCI.condF rfl ?_
    refine WCI.seq ?_
    refine WCI.region ?_
    refine jd rfl (jm (jr rfl) (jm (jn rfl) (jm (Val.loadS rfl (Rd.imm (At.one (by assumption) rfl))) ?_)))
    refine jl rfl (jb rfl (jG (jd rfl (jG (jm (jr rfl) (jG (jm (jn rfl) (jG (jm (Val.loadS rfl (Rd.imm (At.one (by assumption) rfl))) ?_)))))))))
    refine jG (jm (jo rfl) (jG (jO rfl rfl (jk rfl (jg rfl (jC (WX.thenI ?_)))))))
    refine WCI.condT rfl ?_
    refine WCI.seq ?_
    refine WCI.region ?_
    refine WL.stI 8 rfl rfl rfl rfl ?_
    refine jC (WX.thenI ?_)
    refine WCI.ret ?_
    refine WX.inRet (jU (WX.inRet ?_))
    refine WX.roundRet hr (Mem.le.refl _) (.inr ⟨rfl, 33, _, fun rest => ?_, rfl⟩)
    rw [hst, Nd.chk, if_neg hn1, if_neg hfs', if_neg c3, if_pos c4]
   by_cases c5 : 64 < d
   ·have hlast : ∀ rest, Nd.chk top ((pre ++ [(d, n)]) ++ rest) [] = 35 := fun rest => by rw [hst, Nd.chk, if_neg hn1, if_neg hfs', if_neg c3, if_neg c4, if_pos c5]
    cases hg : n.grp
    ·have c4b : ¬ 0 < n.kids.length := fun h => c4 ⟨hg, h⟩
     rw [hg] at hA'
     refine WX.thenI ?_
     refine WCI.condF rfl ?_
     refine WCI.seq ?_
     refine WCI.region ?_
     refine jd rfl (jm (jr rfl) (jm (jn rfl) (jm (Val.loadS rfl (Rd.imm (At.one (by assumption) rfl))) ?_)))
     refine jl rfl (jb rfl (jG (jd rfl (jG (jm (jr rfl) (jG (jm (jn rfl) (jG (jm (Val.loadS rfl (Rd.imm (At.one (by assumption) rfl))) ?_)))))))))
     refine jG (jm (jo rfl) (jG (jL rfl rfl (jk rfl (jg rfl (jC (WX.thenI ?_)))))))
     refine WCI.condF rfl ?_
     refine WCI.seq ?_
     refine WCI.region ?_
     refine ja rfl (jO rfl rfl (jg rfl (jC (WX.thenI ?_))))
     refine WCI.condT rfl ?_
     refine WCI.seq ?_
     refine WCI.region ?_
     refine WL.stI 8 rfl rfl rfl rfl ?_
     refine jC (WX.thenI ?_)
     refine WCI.ret ?_
     exact WX.inRet (jU (WX.inRet (WX.roundRet hr (Mem.le.refl _) (.inr ⟨rfl, 35, _, hlast, rfl⟩))))
    ·rw [hg] at hA'
     refine WX.thenI ?_
     refine WCI.condF rfl ?_
     refine WCI.seq ?_
     refine WCI.region ?_
     refine jd rfl (jm (jr rfl) (jm (jn rfl) (jm (Val.loadS rfl (Rd.imm (At.one (by assumption) rfl))) ?_)))
     refine jl rfl (jb rfl (jH (jH (jH (jH (jH (jH (jk rfl (jg rfl (jC (WX.thenI ?_)))))))))))
     refine WCI.condF rfl ?_
     refine WCI.seq ?_
     refine WCI.region ?_
     refine ja rfl (jO rfl rfl (jg rfl (jC (WX.thenI ?_))))
     refine WCI.condT rfl ?_
     refine WCI.seq ?_
     refine WCI.region ?_
     refine WL.stI 8 rfl rfl rfl rfl ?_
     refine jC (WX.thenI ?_)
     refine WCI.ret ?_
     exact WX.inRet (jU (WX.inRet (WX.roundRet hr (Mem.le.refl _) (.inr ⟨rfl, 35, _, hlast, rfl⟩))))
   have hfine2 : Fine top (pre ++ [(d, n)]) := fun rest => by
    rw [hst, Nd.chk, if_neg hn1, if_neg hfs', if_neg c3, if_neg c4, if_neg c5]
    simp [idl]
   have hln : (pre ++ [(d, n)]).length = pre.length + 1 := by rw [List.length_append, List.length_singleton]
   have hend : ∀ L9, L9 = lp l (r .ready none) :: dp D :: A.on [box g6 41 [vi 0], mp mb (Sl.put (seenF pre) n.id (.bool true)) (if (seenF pre n.id).isSome then pre.length else pre.length + 1), box g7 242 [.map (some mb)]] → L9 = lp l (r .ready none) :: dp D :: A.on [box g6 41 [vi 0], mp mb (seenF (pre ++ [(d, n)])) (pre ++ [(d, n)]).length, box g7 242 [.map (some mb)]] := fun L9 h => by
    rw [h, hln, seenF_snoc, hs2]; rfl
   cases hg : n.grp
   ·have c4b : ¬ 0 < n.kids.length := fun h => c4 ⟨hg, h⟩
    rw [hg] at hA'
    refine WX.thenI ?_
    refine WCI.condF rfl ?_
    refine WCI.seq ?_
    refine WCI.region ?_
    refine jd rfl (jm (jr rfl) (jm (jn rfl) (jm (Val.loadS rfl (Rd.imm (At.one (by assumption) rfl))) ?_)))
    refine jl rfl (jb rfl (jG (jd rfl (jG (jm (jr rfl) (jG (jm (jn rfl) (jG (jm (Val.loadS rfl (Rd.imm (At.one (by assumption) rfl))) ?_)))))))))
    refine jG (jm (jo rfl) (jG (jL rfl rfl (jk rfl (jg rfl (jC (WX.thenI ?_)))))))
    refine WCI.condF rfl ?_
    refine WCI.seq ?_
    refine WCI.region ?_
    refine ja rfl (jL rfl rfl (jg rfl (jC (WX.thenI ?_))))
    refine WCI.condF rfl ?_
    refine WCI.skip ?_
    refine WX.inNormal (WX.thenI ?_)
    refine j8I 5 [10] rfl (jT 0 rfl (jp 0 rfl rfl rfl) (jT 1 rfl (Val.moveP rfl) (jT 2 rfl (jr rfl) (jT 3 rfl (jn rfl) (jT 4 rfl (Val.loadS rfl (Rd.imm (At.zero (by assumption) rfl))) ?_)))))
    refine j5 5 rfl (WL.mapUpdate 9 rfl rfl rfl ?_)
    refine WL.nSet ?_
    exact jC (WK.anyLast (WA.done (by kernel_rfl) (WX.inNormal (WX.roundGo hr (Mem.le.refl _) (.inl ⟨rfl, hI', hfine2, hend _ rfl⟩)))))
   ·rw [hg] at hA'
    refine WX.thenI ?_
    refine WCI.condF rfl ?_
    refine WCI.seq ?_
    refine WCI.region ?_
    refine jd rfl (jm (jr rfl) (jm (jn rfl) (jm (Val.loadS rfl (Rd.imm (At.one (by assumption) rfl))) ?_)))
    refine jl rfl (jb rfl (jH (jH (jH (jH (jH (jH (jk rfl (jg rfl (jC (WX.thenI ?_)))))))))))
    refine WCI.condF rfl ?_
    refine WCI.seq ?_
    refine WCI.region ?_
    refine ja rfl (jL rfl rfl (jg rfl (jC (WX.thenI ?_))))
    refine WCI.condF rfl ?_
    refine WCI.skip ?_
    refine WX.inNormal (WX.thenI ?_)
    refine j8I 5 [10] rfl (jT 0 rfl (jp 0 rfl rfl rfl) (jT 1 rfl (Val.moveP rfl) (jT 2 rfl (jr rfl) (jT 3 rfl (jn rfl) (jT 4 rfl (Val.loadS rfl (Rd.imm (At.zero (by assumption) rfl))) ?_)))))
    refine j5 5 rfl (WL.mapUpdate 9 rfl rfl rfl ?_)
    refine WL.nSet ?_
    exact jC (WK.anyLast (WA.done (by kernel_rfl) (WX.inNormal (WX.roundGo hr (Mem.le.refl _) (.inl ⟨rfl, hI', hfine2, hend _ rfl⟩)))))
  ·have : seenF [] = fun _ => none := by funext k; simp [seenF]
   rw [this]
   rfl
  ·rintro v I' L' hI' (⟨_, hf, rfl⟩ | ⟨q, ⟨rest, hrest⟩, e, p, he, rfl⟩)
   ·exact .inl ⟨_, rfl, hf, rfl⟩
   ·have := he rest
    rw [hrest, ← hfit] at this
    subst this
    exact .inr ⟨.ret, _, rfl, rfl, p, rfl⟩
 ·rintro D I' L1 hI' ⟨hf, rfl⟩
  refine WX.inNormal (jK (WL.stI 7 rfl rfl rfl rfl ?_))
  refine jM (jR ?_)
  refine WX.doneM (RunRes.r1 rfl (ResIs.cellS rfl (Rd.own1 6 rfl rfl))) [0, 0, 0, 0, 0] (hI1.trans (hI2.trans (hI3.trans (hI4.trans hI')))) ⟨rfl, ?_⟩
  have := hf []
  rw [List.append_nil, ← hfit] at this
  rw [this]
  rfl
 ·rintro D c I' L1 hI' ⟨rfl, p, rfl⟩
  exact jR (WX.inRet (jU (WX.doneM (RunRes.r1 rfl (ResIs.cellS rfl (Rd.own1 6 rfl rfl))) [0, 0, 0, 0, 0] (hI1.trans (hI2.trans (hI3.trans (hI4.trans hI')))) ⟨rfl, rfl⟩)))
end Go.Proofs.YtggcpoleklcmkaaGreatDoor
