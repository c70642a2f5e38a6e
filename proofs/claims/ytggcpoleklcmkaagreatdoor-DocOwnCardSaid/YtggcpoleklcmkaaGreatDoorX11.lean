/-
 Drawings, the walks: a curve in halves.
-/
import Derived.Test.YtggcpoleklcmkaaGreatDoorX2
import Derived.Test.YtggcpoleklcmkaaGreatDoorX10
import Derived.Test.YtggcpoleklcmkaaGreatDoorX3
set_option linter.unusedVariables false
set_option linter.unusedSimpArgs false
set_option maxRecDepth 100000
set_option maxHeartbeats 8000000
namespace Go.Dc
open Go.Sl Go.Ls
theorem Pt.inn_ok {p : Pt} (h : p.inn) : p.ok := by
 obtain ⟨⟨h1, h2⟩, h3, h4⟩ := h
 exact ⟨⟨by show (-9223372036854775808 : Int) ≤ _; omega, by show _ ≤ (9223372036854775807 : Int); omega⟩, ⟨by show (-9223372036854775808 : Int) ≤ _; omega, by show _ ≤ (9223372036854775807 : Int); omega⟩⟩
theorem Pt.z_inn : Pt.z.inn := by decide
theorem mid_inn {p q : Pt} (hp : p.inn) (hq : q.inn) : (mid p q).inn := by
 obtain ⟨⟨h1, h2⟩, h3, h4⟩ := hp
 obtain ⟨⟨h5, h6⟩, h7, h8⟩ := hq
 simp only [mid, Pt.inn, Room]
 omega
abbrev ptsC (l : List Pt) : List Value := (l.map Pt.cs).flatten
theorem ptsC_len (l : List Pt) : (ptsC l).length = l.length * 2 := by
 induction l with
 | nil => rfl
 | cons p l ih => rw [ptsC, List.map_cons, List.flatten_cons, List.length_append, ← ptsC, ih]; show 2 + _ = (l.length + 1) * 2; omega
theorem ptsC_mem (l : List Pt) : ∀ c ∈ l.map Pt.cs, c.length = 2 := fun c hc => by
 obtain ⟨p, _, rfl⟩ := List.mem_map.1 hc
 rfl
theorem ptsC_get (l : List Pt) (t : List Value) (i : Nat) (hi : i < l.length) (j : Nat) (v : Value) (h : (l.getD i Pt.z).cs[j]? = some v) : (ptsC l ++ t)[0 + i * 2 + j]? = some v := by
 have hj : j < 2 := by
  rcases Nat.lt_or_ge j 2 with h1 | h1
  ·exact h1
  ·rw [List.getElem?_eq_none (by simpa using h1)] at h; cases h
 rw [List.getElem?_append_left (by rw [ptsC_len]; omega), Nat.zero_add, flat_at (by decide) _ (ptsC_mem l) i j hj, List.getElem?_map]
 rw [List.getD_eq_getElem?_getD] at h
 rw [List.getElem?_eq_getElem hi] at h ⊢
 exact h
theorem ptsC_set (l : List Pt) (t : List Value) (i : Nat) (hi : i < l.length) (p : Pt) : splice (ptsC l ++ t) (0 + i * 2) p.cs = ptsC (l.set i p) ++ t := by
 have h2 : splice (ptsC l ++ t) (0 + i * 2) p.cs = splice (ptsC l) (i * 2 + 0) p.cs ++ t := by
  rw [splice, splice, Nat.zero_add, Nat.add_zero, List.take_append_of_le_length (by rw [ptsC_len]; omega), List.drop_append_of_le_length (by rw [ptsC_len]; show i * 2 + 2 ≤ _; omega)]
  simp only [List.append_assoc]
 rw [h2, flat_splice (by decide) _ (ptsC_mem l) i 0 p.cs (by rw [List.length_map]; exact hi) (by show 0 + 2 ≤ 2; omega), ptsC, List.map_set]
 congr 3
 rw [List.getElem_map]; rfl
theorem getD_inn {l : List Pt} (h : ∀ p ∈ l, p.inn) (i : Nat) : (l.getD i Pt.z).inn := by
 rw [List.getD_eq_getElem?_getD]
 cases h1 : l[i]? with
 | none => exact Pt.z_inn
 | some p => exact h p (List.mem_of_getElem? h1)
theorem set_inn {l : List Pt} (h : ∀ p ∈ l, p.inn) (i : Nat) {q : Pt} (hq : q.inn) : ∀ p ∈ l.set i q, p.inn := fun p hp => by
 rcases List.mem_or_eq_of_mem_set hp with hp | rfl
 ·exact h p hp
 ·exact hq
def inner (R : List Pt) : Nat → List Pt
 | 0 => R
 | i + 1 => (inner R i).set i (mid ((inner R i).getD i Pt.z) ((inner R i).getD (i + 1) Pt.z))
theorem inner_len (R : List Pt) : ∀ i, (inner R i).length = R.length
 | 0 => rfl
 | i + 1 => by rw [inner, List.length_set, inner_len R i]
theorem inner_inn {R : List Pt} (h : ∀ p ∈ R, p.inn) : ∀ i, ∀ p ∈ inner R i, p.inn
 | 0 => h
 | i + 1 => set_inn (inner_inn h i) i (mid_inn (getD_inn (inner_inn h i) _) (getD_inn (inner_inn h i) _))
def zs4 : List Pt := [Pt.z, Pt.z, Pt.z, Pt.z]
def outer (n : Nat) (R : List Pt) : Nat → List Pt × List Pt × List Pt
 | 0 => (R, zs4, zs4)
 | k + 1 => (inner (outer n R k).1 (n - 1 - k), (outer n R k).2.1.set k ((outer n R k).1.getD 0 Pt.z), (outer n R k).2.2.set (n - 1 - k) ((outer n R k).1.getD (n - 1 - k) Pt.z))
theorem outer_len (n : Nat) {R : List Pt} (hR : R.length = 4) : ∀ k, (outer n R k).1.length = 4 ∧ (outer n R k).2.1.length = 4 ∧ (outer n R k).2.2.length = 4
 | 0 => ⟨hR, rfl, rfl⟩
 | k + 1 => ⟨by rw [outer, inner_len]; exact (outer_len n hR k).1, by rw [outer, List.length_set]; exact (outer_len n hR k).2.1, by rw [outer, List.length_set]; exact (outer_len n hR k).2.2⟩
theorem outer_inn (n : Nat) {R : List Pt} (h : ∀ p ∈ R, p.inn) : ∀ k, ∀ p ∈ (outer n R k).1, p.inn
 | 0 => h
 | k + 1 => inner_inn (outer_inn n h k) _
theorem pts_at {I : Mem} {l : List Pt} {v : Value} (hv : LsAt Pt.rep I l v) (h0 : 0 < l.length) : ∃ b off cap, v = .slice (some ⟨b, off, none⟩) l.length cap ∧ At I b off (ptsC l) := by
 obtain ⟨css, ⟨a, cap, rfl, hc, ⟨h9, _⟩ | ⟨b, off, rfl, hA⟩⟩, hall⟩ := hv
 ·omega
 ·have : ∀ {l : List Pt} {css : List (List Value)}, All2 (Pt.rep I) l css → css = l.map Pt.cs := by
   intro l
   induction l with
   | nil => intro css h; cases css with
    | nil => rfl
    | cons _ _ => exact h.elim
   | cons p l ih => intro css h; cases css with
    | nil => exact h.elim
    | cons c css => rw [List.map_cons, ← ih h.2, ← h.1.1]
  rw [this hall] at hA
  exact ⟨b, off, cap, rfl, hA⟩
theorem ptsC_one (l : List Pt) : (ptsC l).all Value.oneCell' = true := by
 induction l with
 | nil => rfl
 | cons p l ih => rw [ptsC, List.map_cons, List.flatten_cons, List.all_append, ← ptsC, ih]; rfl
theorem splice_all {cs : List Value} {n : Nat} {ds : List Value} (h : cs.length = n) (h2 : ds.length = n := by rfl) : splice ds 0 cs = cs := by
 rw [splice, List.take_zero, List.nil_append, List.drop_eq_nil_of_le (by omega), List.append_nil]
abbrev rowC (l : List Pt) (n : Nat) : List Value := ptsC l ++ [vi n]
theorem rowC_one (l : List Pt) (n : Nat) : (rowC l n).all Value.oneCell' = true := by
 rw [rowC, List.all_append, ptsC_one]; rfl
end Go.Dc
namespace Go.Proofs.YtggcpoleklcmkaaGreatDoor
open Go.Sl Go.Ls Go.Dc
attribute [local irreducible] WC WL WX WK WA WAK Val Ctr RunRes ResIs Rd At sl box pt Exit.then Exit.inBlock bodyPost Code.wp wpList
theorem mid_ctr (p q : Pt) (I : Mem) (hp : p.inn) (hq : q.inn) : Ctr Tryz.prog 161 [.agg p.cs.toArray, .agg q.cs.toArray] I [] (Still I fun r => r = .agg (mid p q).cs.toArray) := by
 obtain ⟨⟨h1, h2⟩, h3, h4⟩ := hp
 obtain ⟨⟨h5, h6⟩, h7, h8⟩ := hq
 refine Ctr.intro Tryz.func161 rfl rfl rfl fun E F => ?_
 refine jS (WL.boxA rfl rfl (fun _ => ?_))
 refine jW ?_
 refine WL.boxA rfl rfl (fun _ => ?_)
 refine jW ?_
 refine WL.alloc rfl (fun _ => ?_)
 refine jW ?_
 refine jN (jm (jn rfl) (jm (jp 1 rfl rfl rfl) (jm (jn rfl) (jm (jp 2 rfl rfl rfl) (jX rfl rfl (jm (Val.shr rfl rfl (by decide) (shr_u64 2 rfl (by decide))) ?_))))))
 refine jm (jn rfl) (jm (jp 1 rfl rfl rfl) (jm (jn rfl) (jm (jp 2 rfl rfl rfl) (jX rfl rfl (jm (Val.shr rfl rfl (by decide) (shr_u64 2 rfl (by decide))) ?_)))))
 skip
 refine jm (Val.build (cs := (mid p q).cs) rfl) ?_
 refine WL.stA 3 rfl rfl rfl rfl ?_
 refine jM (jR ?_)
 exact jP [] (jr1 rfl (jcL 3 rfl rfl rfl)) ⟨rfl, rfl, rfl⟩
theorem ck1_ctr (p : Pt) (I : Mem) (hp : p.inn) : Ctr Tryz.prog 178 [.agg p.cs.toArray] I [] (Still I fun r => r = .bool false) := by
 refine Ctr.intro Tryz.func178 rfl rfl rfl fun E F => ?_
 refine jS (WL.boxA rfl rfl (fun _ => ?_))
 refine jW ?_
 refine jg rfl (jN (jm (jt 1 rfl rfl rfl) ?_))
 refine WL.callE rfl rfl (inn_ctr p _) rfl (fun h => ?_) (fun h => ?_)
 ·skip
  refine jl rfl (jg rfl (jM (jR ?_)))
  exact jP [] (jr1 rfl (jtB rfl)) ⟨rfl, rfl, rfl⟩
 ·exact absurd hp h
theorem idx2_ctr (l : List Pt) (v : Value) (I : Mem) (hv : LsAt Pt.rep I l v) (hall : ∀ p ∈ l, p.inn) (hl : l.length ≤ 10) : Ctr Tryz.prog 97 [v, .func (.func 178) #[] #[]] I [] (Still I fun r => r = vi (-1)) := by
 have hv0 := hv
 obtain ⟨a1, c1, rfl⟩ := hv.sl
 refine Ctr.intro Tryz.func97 rfl rfl rfl fun E F => ?_
 refine jS (jf rfl (jM (jB (jS (jc rfl (jm (jo rfl) (ja rfl (jM (WC.block ?_)))))))))
 refine WC.loop (fun n ρ' I' L' => ∃ k : Nat, n = l.length - k ∧ k ≤ l.length ∧ I' = I ∧ ρ' 0 = .slice a1 l.length c1 ∧ ρ' 1 = .func (.func 178) #[] #[] ∧ ρ' 7 = vi l.length ∧ ρ' 8 = vi k ∧ L' = [F])
  l.length ⟨0, rfl, by omega, rfl, rfl, rfl, rfl, rfl, rfl⟩ ?_
 rintro n ρ' I0 L' ⟨k, rfl, hk, rfl, r0, r1, r7, r8, rfl⟩
 refine ju4 r8 r7 r1 r0 ?_
 by_cases hkm : k < l.length
 ·obtain ⟨b, off, cap, cs, he, ⟨rfl, hp⟩, hA⟩ := hv0.get k hkm
  cases he
  refine jS (jy rfl rfl (jM (jB (jF (jV (jA (jB (WC.block (jS (ja rfl (jf rfl (jN (jm (Val.moveF rfl) (jc rfl (ja rfl (jm (jZ rfl rfl) (jm (Val.loadI rfl (by assumption) rfl) ?_)))))))))))))))))
  refine WL.callS rfl rfl (ck1_ctr l[k] _ (hall _ (List.getElem_mem hkm))) rfl ?_
  rintro _ rfl
  exact jM (jE (jV (WX.inNormal (jA (jD (jX rfl rfl (ja rfl (jC (WX.thenK (WK.round (l.length - (k + 1)) (by omega) ⟨k + 1, rfl, by omega, rfl, rfl, rfl, rfl, rfl, rfl⟩))))))))))
 ·have : k = l.length := by omega
  subst this
  refine jS (jx rfl rfl (jM (jB (jE (WC.exit (WX.thenExit (WX.thenExit (WX.inHit (jK (jf rfl (jM (jR ?_))))))))))))
  exact jP [] (jr1 rfl (jtI rfl)) ⟨rfl, rfl, rfl⟩
theorem con2_ctr (l : List Pt) (v : Value) (I : Mem) (hv : LsAt Pt.rep I l v) (hall : ∀ p ∈ l, p.inn) (hl : l.length ≤ 10) : Ctr Tryz.prog 57 [v, .func (.func 178) #[] #[]] I [] (Still I fun r => r = .bool false) := by
 have hv0 := hv
 obtain ⟨a1, c1, rfl⟩ := hv.sl
 refine Ctr.intro Tryz.func57 rfl rfl rfl fun E F => ?_
 refine jS (jg rfl (jN (jc rfl (jm (Val.moveF rfl) (WL.callS rfl rfl (idx2_ctr l _ _ hv0 hall hl) rfl ?_)))))
 rintro _ rfl
 refine jm (Val.geq rfl rfl (decide_eq_false (by omega))) ?_
 refine jg rfl (jM (jR ?_))
 exact jP [] (jr1 rfl (jtB rfl)) ⟨rfl, rfl, rfl⟩
theorem check_ctr (l : List Pt) (v : Value) (I : Mem) (hv : LsAt Pt.rep I l v) (hall : ∀ p ∈ l, p.inn) (h3 : 3 ≤ l.length) (h4 : l.length ≤ 4) : Ctr Tryz.prog 171 [v] I [] (Still I fun r => r = vi 0) := by
 have hv0 := hv
 obtain ⟨a1, c1, rfl⟩ := hv.sl
 refine Ctr.intro Tryz.func171 rfl rfl rfl fun E F => ?_
 refine jS (jf rfl (jM (jB (jS (jc rfl (jm (jo rfl) (jx rfl rfl (jb rfl (jG (jc rfl (jG (jm (jo rfl) (jG (jL rfl rfl (jk rfl (jb rfl (jG (jc rfl (jG (WL.callS rfl rfl (con2_ctr l _ _ hv0 hall (by omega)) rfl ?_))))))))))))))))))))
 rintro _ rfl
 refine jk rfl (jM (jE (jV (jK (jf rfl (jM (jR ?_)))))))
 exact jP [] (jr1 rfl (jtI rfl)) ⟨rfl, rfl, rfl⟩
theorem rowOf_ctr (l : List Pt) (R : List Pt) (v : Value) (I : Mem) (hv : LsAt Pt.rep I l v) (h3 : 3 ≤ l.length) (h4 : l.length ≤ 4) (hR : R = l ++ List.replicate (4 - l.length) Pt.z) : Ctr Tryz.prog 172 [v] I [] (Still I fun r => r = .agg (rowC R l.length).toArray) := by
 obtain ⟨b, off, cap, rfl, hA⟩ := pts_at hv (by omega)
 have hRl : R.length = 4 := by rw [hR, List.length_append, List.length_replicate]; omega
 have hlen : (rowC R l.length).length = 9 := by rw [List.length_append, ptsC_len, hRl]; rfl
 have hm : Nat.min l.length 4 = l.length := Nat.min_eq_left h4
 have hsp : splice (rowC zs4 l.length) 0 (ptsC l) = rowC R l.length := by
  have h34 : l.length = 3 ∨ l.length = 4 := by omega
  rw [splice, ptsC_len, hR]
  simp only [rowC, ptsC, List.map_append, List.flatten_append, List.take_zero, List.nil_append, Nat.zero_add, List.append_assoc]
  congr 1
  rcases h34 with h | h <;> rw [h] <;> rfl
 refine Ctr.intro Tryz.func172 rfl rfl rfl fun E F => ?_
 refine jS (WL.alloc rfl (fun _ => ?_))
 refine jW ?_
 refine jN (jc rfl (jm (jo rfl) ?_))
 rename_i g2
 refine jm (Val.build (cs := (rowC zs4 l.length)) rfl) ?_
 refine WL.alloc rfl (fun _ => ?_)
 refine jW ?_
 refine WL.store 2 rfl rfl rfl ?_
 refine WL.nSet ?_
 refine jN (jm (jn rfl) ?_)
 rename_i g3
 refine jm (Val.sliceA (l := 0) (h := 4) rfl (.none _) (.none _) (by omega) (by omega)) ?_
 refine jc rfl (WL.copyN (m := l.length) (ys := ptsC l) 2 rfl rfl rfl (Rd.imm hA) hm (ptsC_len l) (ptsC_one l) (by rw [ptsC_len]; show 0 + 0 * 2 + l.length * 2 ≤ 9; omega) rfl ?_)
 change WL _ _ _ _ _ (List.set _ 2 (box g3 _ (splice (rowC zs4 l.length) 0 (ptsC l)))) _
 rw [hsp]
 refine WL.nSet ?_
 refine jN (jm (Val.loadA rfl (Rd.all 2 rfl) hlen) ?_)
 refine WL.stG 1 rfl rfl rfl hlen (rowC_one R l.length) (by show 0 + 9 ≤ 9; omega) (splice_all hlen) ?_
 refine jM (jR ?_)
 apply WX.doneP (ks := [])
 case hres => exact RunRes.r1 rfl (ResIs.cellA rfl (Rd.all 1 rfl) hlen)
 case hI => exact Mem.le.refl _
 exact ⟨rfl, rfl, rfl⟩
theorem halves_ctr (n : Nat) (R : List Pt) (I : Mem) (h3 : 3 ≤ n) (h4 : n ≤ 4) (hR : R.length = 4) (hall : ∀ p ∈ R, p.inn) : Ctr Tryz.prog 173 [.agg (rowC R n).toArray] I []
  (Still I fun r => r = .tuple #[.agg (rowC (outer n R n).2.1 n).toArray, .agg (rowC (outer n R n).2.2 n).toArray]) := by
 have hlen : ∀ l : List Pt, l.length = 4 → (rowC l n).length = 9 := fun l h => by rw [List.length_append, ptsC_len, h]; rfl
 have hn8 : ∀ l : List Pt, l.length = 4 → (rowC l n)[0 + 8]? = some (vi n) := fun l h => by rw [List.getElem?_append_right (by rw [ptsC_len, h]; decide), ptsC_len, h]; rfl
 refine Ctr.intro Tryz.func173 rfl rfl rfl fun E F => ?_
 refine jS (WL.boxA rfl rfl (fun _ => ?_))
 refine jW ?_
 refine WL.alloc rfl (fun _ => ?_)
 refine jW ?_
 refine WL.alloc rfl (fun _ => ?_)
 refine jW ?_
 refine jM (jB ?_)
 rename_i g1 g2 g3
 refine WC.cutP (fun ρ' I' L' => I' = I ∧ ρ' 1 = ptr g1 ∧ ρ' 2 = ptr g2 ∧ ρ' 3 = ptr g3 ∧ L' = [F, box g1 258 (rowC R n), box g2 258 (rowC zs4 n), box g3 258 (rowC zs4 n)]) ?_ ?_
 ·skip
  refine j8 999 [1] rfl (jT 0 rfl (jn rfl) (jT 1 rfl (Val.loadS rfl (Rd.own1 0 rfl (hn8 R hR))) ?_))
  refine jT 2 rfl (jn rfl) (jT 3 rfl (Val.loadS rfl (Rd.own1 0 rfl (hn8 R hR))) ?_)
  refine jT 4 rfl (jn rfl) (j5 5 rfl (WL.stI 2 rfl rfl rfl rfl ?_))
  refine jC (j7 [1] rfl (j5 6 rfl (jm (jn rfl) (jC (j7 [1] rfl (j5 7 rfl (WL.stI 3 rfl rfl rfl rfl ?_)))))))
  refine jC (j7 [1] rfl (j6 ?_))
  refine WX.thenK (WK.meet ?_)
  exact ⟨rfl, rfl, rfl, rfl, rfl⟩
 rintro ρ' I' L' ⟨rfl, r1, r2, r3, rfl⟩
 refine ju3 r3 r2 r1 (jB (jS (jm (jn rfl) (jm (Val.loadS rfl (Rd.own1 1 rfl (hn8 R hR))) ?_))))
 refine ja rfl (jM (WC.block ?_))
 refine WC.loop (fun m ρ' I0 L' => ∃ k : Nat, m = n - k ∧ k ≤ n ∧ I0 = I' ∧ ρ' 1 = ptr g1 ∧ ρ' 2 = ptr g2 ∧ ρ' 3 = ptr g3 ∧ ρ' 14 = vi n ∧ ρ' 15 = vi k ∧
   L' = [F, box g1 258 (rowC (outer n R k).1 n), box g2 258 (rowC (outer n R k).2.1 n), box g3 258 (rowC (outer n R k).2.2 n)])
  n ⟨0, rfl, by omega, rfl, rfl, rfl, rfl, rfl, rfl, rfl⟩ ?_
 rintro m ρ' I0 L' ⟨k, rfl, hk, rfl, r1, r2, r3, r14, r15, rfl⟩
 refine ju5 r15 r14 r3 r2 r1 ?_
 obtain ⟨hl1, hl2, hl3⟩ := outer_len n hR k
 have hin := outer_inn n hall k
 by_cases hkn : k < n
 ·have hA1 : (outer n R (k + 1)).2.1 = (outer n R k).2.1.set k ((outer n R k).1.getD 0 Pt.z) := rfl
  have hB1 : (outer n R (k + 1)).2.2 = (outer n R k).2.2.set (n - 1 - k) ((outer n R k).1.getD (n - 1 - k) Pt.z) := rfl
  have hR1 : (outer n R (k + 1)).1 = inner (outer n R k).1 (n - 1 - k) := rfl
  refine jS (jy rfl rfl (jM (jB (jF (jV (jA (jB (WC.block (jS (ja rfl (jf rfl (jN (jm (jn rfl) (jm (Val.loadS rfl (Rd.own1 1 rfl (hn8 _ hl1))) ?_))))))))))))))
  refine jm (Val.sub rfl rfl (wrap_i64 (by omega) (by omega))) ?_
  refine ja rfl (jm (Val.sub rfl rfl (wrap_i64 (by omega) (by omega))) ?_)
  refine jf rfl (jM (jB ?_))
  have hlast : (n : Int) - 1 - (k : Int) = ((n - 1 - k : Nat) : Int) := by omega
  rw [hlast]
  generalize hla : n - 1 - k = last at hA1 hB1 hR1 ⊢
  have hl4 : last < 4 := by omega
  refine WC.cutP (fun ρ' I' L' => I' = I0 ∧ ρ' 1 = ptr g1 ∧ ρ' 2 = ptr g2 ∧ ρ' 3 = ptr g3 ∧ ρ' 5 = vi last ∧ ρ' 14 = vi n ∧ ρ' 15 = vi k ∧ L' = [F, box g1 258 (rowC (outer n R k).1 n), box g2 258 (rowC ((outer n R k).2.1.set k ((outer n R k).1.getD 0 Pt.z)) n), box g3 258 (rowC ((outer n R k).2.2.set last ((outer n R k).1.getD last Pt.z)) n)]) ?_ ?_
  ·skip
   refine j8 999 [1] rfl (jT 0 rfl (Val.moveI rfl) (jT 1 rfl (Val.moveI rfl) (jT 2 rfl (jn rfl) (jT 3 rfl (Val.indexAddrA rfl rfl (by omega) (by omega)) ?_))))
   refine jT 4 rfl (Val.loadA rfl (Rd.own 0 rfl _ _ (ptsC_get _ _ 0 (by omega))) rfl) ?_
   refine jT 5 rfl (Val.moveI rfl) (jT 6 rfl (jn rfl) (jT 7 rfl (Val.indexAddrA rfl rfl (by omega) (by omega)) ?_))
   refine jT 8 rfl (Val.loadA rfl (Rd.own 0 rfl _ _ (ptsC_get _ _ last (by omega))) rfl) ?_
   refine jT 9 rfl (jn rfl) (jT 10 rfl (Val.indexAddrA rfl rfl (by omega) (by omega)) ?_)
   refine jT 12 rfl (jn rfl) (j5 11 rfl (WL.stG 2 rfl rfl rfl rfl rfl (by rw [hlen _ hl2]; show 0 + k * 2 + 2 ≤ 9; omega) (ptsC_set _ _ k (by omega) _) ?_))
   refine jC (j7 [1] rfl (j5 13 rfl (jm (Val.indexAddrA rfl rfl (by omega) (by omega)) ?_)))
   refine jC (j7 [1] rfl (j5 14 rfl (WL.stG 3 rfl rfl rfl rfl rfl (by rw [hlen _ hl3]; show 0 + last * 2 + 2 ≤ 9; omega) (ptsC_set _ _ last (by omega) _) ?_)))
   refine jC (j7 [1] rfl (j6 ?_))
   refine WX.thenK (WK.meet ?_)
   exact ⟨rfl, rfl, rfl, rfl, rfl, rfl, rfl, rfl⟩
  rintro ρ' I' L' ⟨rfl, r1, r2, r3, r5, r14, r15, rfl⟩
  refine ju6 r15 r14 r5 r3 r2 r1 ?_
  rw [← hA1, ← hB1]
  refine jS (ja rfl (ja rfl (jM (WC.block ?_))))
  refine WC.loop (fun m ρ' I1 L' => ∃ i : Nat, m = last - i ∧ i ≤ last ∧ I1 = I' ∧ ρ' 1 = ptr g1 ∧ ρ' 2 = ptr g2 ∧ ρ' 3 = ptr g3 ∧ ρ' 14 = vi n ∧ ρ' 15 = vi k ∧ ρ' 36 = vi last ∧ ρ' 37 = vi i ∧
    L' = [F, box g1 258 (rowC (inner (outer n R k).1 i) n), box g2 258 (rowC (outer n R (k + 1)).2.1 n), box g3 258 (rowC (outer n R (k + 1)).2.2 n)])
   last ⟨0, rfl, by omega, rfl, rfl, rfl, rfl, rfl, rfl, rfl, rfl, rfl⟩ ?_
  rintro m ρ' I1 L' ⟨i, rfl, hi, rfl, r1, r2, r3, r14, r15, r36, r37, rfl⟩
  refine ju7 r37 r36 r15 r14 r3 r2 r1 ?_
  have hil := inner_len (outer n R k).1 i
  have hii := inner_inn hin i
  by_cases hil2 : i < last
  ·skip
   refine jS (jy rfl rfl (jM (jB (jF (jV (jA (jB (WC.block (jS (ja rfl (jf rfl (jM (j8 13 [1] rfl (jT 0 rfl (Val.moveI rfl) (jT 1 rfl (Val.moveI rfl) (jT 2 rfl (jn rfl) (jT 3 rfl (Val.indexAddrA rfl rfl (by omega) (by omega)) ?_)))))))))))))))))
   refine jT 4 rfl (Val.loadA rfl (Rd.own 0 rfl _ _ (ptsC_get _ _ i (by omega))) rfl) ?_
   refine jT 5 rfl (Val.moveI rfl) (jT 6 rfl (Val.add rfl rfl (wrap_i64 (by omega) (by omega))) ?_)
   refine jT 7 rfl (jn rfl) (jT 8 rfl (Val.indexAddrA rfl rfl (by omega) (by omega)) ?_)
   refine jT 9 rfl (Val.loadA rfl (Rd.own 0 rfl _ _ (ptsC_get _ _ (i + 1) (by omega))) rfl) ?_
   refine jee 10 11 rfl rfl ?_ ?_
   ·refine WL.callS rfl rfl (mid_ctr _ _ _ (getD_inn hii _) (getD_inn hii _)) rfl ?_
    rintro _ rfl
    refine jC (j7 [1] rfl (j5 11 rfl (jm (jn rfl) (jC (j7 [1] rfl (j5 12 rfl (jm (Val.indexAddrA rfl rfl (by omega) (by omega)) ?_)))))))
    refine jC (j7 [1] rfl (j5 13 rfl (WL.stG 1 rfl rfl rfl rfl rfl (by rw [hlen _ (by omega)]; show 0 + i * 2 + 2 ≤ 9; omega) (ptsC_set _ _ i (by omega) _) ?_)))
    exact jC (WK.anyLast (WA.done (by kernel_rfl) (WX.inNormal (jA (jD (jX rfl rfl (ja rfl (jC (WX.thenK (WK.round (last - (i + 1)) (by omega) ⟨i + 1, rfl, by omega, rfl, rfl, rfl, rfl, rfl, rfl, rfl, rfl, rfl⟩))))))))))
   ·skip
    refine jm (jn rfl) (jC (j7 [1] rfl (j5 10 rfl (WL.callS rfl rfl (mid_ctr _ _ _ (getD_inn hii _) (getD_inn hii _)) rfl ?_))))
    rintro _ rfl
    refine jC (j7 [1] rfl (j5 12 rfl (jm (Val.indexAddrA rfl rfl (by omega) (by omega)) ?_)))
    refine jC (j7 [1] rfl (j5 13 rfl (WL.stG 1 rfl rfl rfl rfl rfl (by rw [hlen _ (by omega)]; show 0 + i * 2 + 2 ≤ 9; omega) (ptsC_set _ _ i (by omega) _) ?_)))
    exact jC (WK.anyLast (WA.done (by kernel_rfl) (WX.inNormal (jA (jD (jX rfl rfl (ja rfl (jC (WX.thenK (WK.round (last - (i + 1)) (by omega) ⟨i + 1, rfl, by omega, rfl, rfl, rfl, rfl, rfl, rfl, rfl, rfl, rfl⟩))))))))))
  ·have : i = last := by omega
   subst this
   rw [← hR1]
   exact jS (jx rfl rfl (jM (jB (jE (WC.exit (WX.thenExit (WX.thenExit (WX.inHit (WX.inNormal (jA (jD (jX rfl rfl (ja rfl (jC (WX.thenK (WK.round (n - (k + 1)) (by omega) ⟨k + 1, rfl, by omega, rfl, rfl, rfl, rfl, rfl, rfl, rfl⟩))))))))))))))))
 ·have : k = n := by omega
  subst this
  refine jS (jx rfl rfl (jM (jB (jE (WC.exit (WX.thenExit (WX.thenExit (WX.inHit (jA (jB (j8 999 [2, 2] rfl (jT 0 rfl (Val.loadA rfl (Rd.all 0 rfl) (hlen _ hl2)) ?_))))))))))))
  refine jT 1 rfl (Val.loadA rfl (Rd.all 1 rfl) (hlen _ hl3)) ?_
  refine j5 2 rfl (WL.stG 2 rfl rfl rfl (hlen _ hl2) (rowC_one _ _) (by rw [hlen _ hl2]; decide) (splice_all (hlen _ hl2) (hlen _ hl2)) ?_)
  refine jC (j7 [2, 2] rfl (j5 3 rfl (WL.stG 3 rfl rfl rfl (hlen _ hl3) (rowC_one _ _) (by rw [hlen _ hl3]; decide) (splice_all (hlen _ hl3) (hlen _ hl3)) ?_)))
  refine jC (j7 [2, 2] rfl (j6 (jA (jR ?_))))
  apply WX.doneP (ks := [])
  case hres => exact RunRes.r2 rfl (ResIs.cellA rfl (Rd.all 2 rfl) (hlen _ hl2)) (ResIs.cellA rfl (Rd.all 3 rfl) (hlen _ hl3))
  case hI => exact Mem.le.refl _
  exact ⟨rfl, rfl, rfl⟩
end Go.Proofs.YtggcpoleklcmkaaGreatDoor

namespace Go.Dc
open Go.Sl Go.Ls
theorem outer_in2 (n : Nat) {R : List Pt} (h : ∀ p ∈ R, p.inn) : ∀ k, (∀ p ∈ (outer n R k).2.1, p.inn) ∧ (∀ p ∈ (outer n R k).2.2, p.inn)
 | 0 => ⟨(by decide : ∀ p ∈ zs4, p.inn), (by decide : ∀ p ∈ zs4, p.inn)⟩
 | k + 1 => ⟨set_inn (outer_in2 n h k).1 _ (getD_inn (outer_inn n h k) _), set_inn (outer_in2 n h k).2 _ (getD_inn (outer_inn n h k) _)⟩
theorem pts_all2 {I : Mem} : ∀ {l : List Pt}, (∀ p ∈ l, p.ok) → All2 (Pt.rep I) l (l.map Pt.cs)
 | [], _ => trivial
 | p :: l, h => ⟨⟨rfl, h p (.head _)⟩, pts_all2 fun q hq => h q (.tail _ hq)⟩
theorem ptsC_take (l : List Pt) (t : List Value) (n : Nat) (hn : n ≤ l.length) : ((ptsC l ++ t).drop 0).take (n * 2) = ptsC (l.take n) := by
 rw [List.drop_zero, List.take_append_of_le_length (by rw [ptsC_len]; omega)]
 induction l generalizing n with
 | nil =>
  obtain rfl : n = 0 := by simpa using hn
  rfl
 | cons p l ih =>
  cases n with
  | zero => simp
  | succ n =>
   rw [List.take_succ_cons, ptsC, List.map_cons, List.flatten_cons, show (n + 1) * 2 = n * 2 + 2 by omega, List.take_append, List.take_of_length_le (by show 2 ≤ _; omega)]
   rw [show n * 2 + 2 - p.cs.length = n * 2 by show n * 2 + 2 - 2 = _; omega, ← ptsC, ih n (by simp only [List.length_cons] at hn; omega)]
   rfl
theorem path_seg : ∀ {l : List Sg} {o : Bool}, pathGo o l = 0 → ∀ j (h : j < l.length), ∃ o', (l[j]).check o' = 0 ∧ (j = 0 → o' = o) ∧ ∀ (h2 : 0 < j), o' = decide ((l[j - 1]'(by omega)).kind ≠ 5)
 | [], _, _, _, h => absurd h (Nat.not_lt_zero _)
 | s :: l, o, h, 0, _ => by
  rw [pathGo] at h
  split at h
  ·rename_i h1; exact absurd h h1
  ·rename_i h1; exact ⟨o, Decidable.of_not_not h1, fun _ => rfl, fun h => absurd h (by decide)⟩
 | s :: l, o, h, j + 1, hj => by
  rw [pathGo] at h
  split at h
  ·rename_i h1; exact absurd h h1
  ·obtain ⟨o', h1, h2, h3⟩ := path_seg h j (by simpa using hj)
   refine ⟨o', h1, (fun e => absurd e (by omega)), fun _ => ?_⟩
   cases j with
   | zero => exact h2 rfl
   | succ j => exact h3 (by omega)
theorem seg_facts {s : Sg} {o : Bool} (h : s.check o = 0) : 1 ≤ s.kind ∧ s.kind ≤ 5 ∧ (s.kind ≠ 1 → o = true) ∧ (0 < need s.kind → s.p0.inn) ∧ (1 < need s.kind → s.p1.inn) ∧ (2 < need s.kind → s.p2.inn) := by
 rw [Sg.check] at h
 split at h
 ·exact absurd h (by decide)
 ·rename_i h1
  split at h
  ·exact absurd h (by decide)
  ·split at h
   ·exact absurd h (by decide)
   ·rename_i h3
    refine ⟨by omega, by omega, fun e => ?_, fun e => ?_, fun e => ?_, fun e => ?_⟩
    ·cases o with
     | true => rfl
     | false => exact absurd (.inr (.inr ⟨rfl, e⟩)) h1
    ·exact Decidable.byContradiction fun e2 => h3 (.inl ⟨e, e2⟩)
    ·exact Decidable.byContradiction fun e2 => h3 (.inr (.inl ⟨e, e2⟩))
    ·exact Decidable.byContradiction fun e2 => h3 (.inr (.inr ⟨e, e2⟩))
theorem split_facts {l : List Sg} {j : Nat} (h : pathCheck l = 0) (hj : j < l.length) (h1 : (l[j]).kind ≠ 1) (h5 : (l[j]).kind ≠ 5) :
  0 < j ∧ 1 ≤ need (l[j - 1]).kind ∧ ((l[j - 1]).point (need (l[j - 1]).kind - 1)).inn ∧ (l[j].kind = 2 ∨ l[j].kind = 3 ∨ l[j].kind = 4) ∧ (l[j]).p0.inn ∧ (l[j].kind ≠ 2 → (l[j]).p1.inn) ∧ (l[j].kind = 4 → (l[j]).p2.inn) := by
 have hg : pathGo false l = 0 := by
  rw [pathCheck] at h
  split at h
  ·exact absurd h (by decide)
  ·exact h
 obtain ⟨o, c1, c2, c3⟩ := path_seg hg j hj
 obtain ⟨k1, k2, k3, k4, k5, k6⟩ := seg_facts c1
 have hj0 : 0 < j := by
  rcases Nat.eq_zero_or_pos j with e | e
  ·have := k3 h1
   rw [c2 e] at this
   cases this
  ·exact e
 have hp5 : (l[j - 1]).kind ≠ 5 := by
  have := c3 hj0
  rw [k3 h1] at this
  exact of_decide_eq_true this.symm
 obtain ⟨o', d1, _, _⟩ := path_seg hg (j - 1) (by omega)
 obtain ⟨m1, m2, m3, m4, m5, m6⟩ := seg_facts d1
 generalize l[j - 1] = y at *
 generalize l[j] = x at *
 have hny : need y.kind = 1 ∨ need y.kind = 2 ∨ need y.kind = 3 := by
  have : y.kind = 1 ∨ y.kind = 2 ∨ y.kind = 3 ∨ y.kind = 4 := by omega
  rcases this with e | e | e | e <;> rw [e] <;> decide
 have hnx : x.kind = 2 ∨ x.kind = 3 ∨ x.kind = 4 := by omega
 refine ⟨hj0, by omega, ?_, hnx, ?_, fun e => ?_, fun e => ?_⟩
 ·rcases hny with e | e | e <;> rw [e]
  ·exact m4 (by omega)
  ·exact m5 (by omega)
  ·exact m6 (by omega)
 ·rcases hnx with e | e | e <;> exact k4 (by rw [e]; decide)
 ·rcases hnx with e2 | e2 | e2
  ·exact absurd e2 e
  ·exact k5 (by rw [e2]; decide)
  ·exact k5 (by rw [e2]; decide)
 ·exact k6 (by rw [e]; decide)
def Sg.pts (s : Sg) : List Pt := [s.p0, s.p1, s.p2].take (need s.kind)
end Go.Dc
namespace Go.Proofs.YtggcpoleklcmkaaGreatDoor
open Go.Sl Go.Ls Go.Dc
attribute [local irreducible] WC WL WX WK WA WAK Val Ctr RunRes ResIs Rd At sl box pt Exit.then Exit.inBlock bodyPost Code.wp wpList
theorem cloneP (g n m : Nat) (R : List Pt) (I : Mem) (h0 : 0 < n) (h4 : n ≤ R.length) (hR : R.length = 4) (hin : ∀ p ∈ R, p.inn) : Ctr Tryz.prog 174 [.slice (some ⟨g, 0, none⟩) n 4] I [box g 258 (rowC R m)]
  (fun r I' L' => I' = I ∧ ∃ a c p, r = .slice a n c ∧ L' = [box g 258 (rowC R m), p] ∧ OwnL Pt.rep 27 2 I (R.take n) r p) := by
 refine Ctr.intro Tryz.func174 rfl rfl rfl fun E F => ?_
 refine jS (jh rfl (jM (jB (jS (jc rfl (jm (Val.eqlNil rfl) ?_))))))
 refine jM (jE (jV (jK (WL.buildSlice (by with_unfolding_all exact rfl) rfl (by with_unfolding_all exact rfl) rfl (fun _ => ?_)))))
 refine jW ?_
 refine jc rfl (WL.boxSl (e := 27) (sz := 2) (n := 0) (xs := []) 2 rfl rfl (by decide) ?_)
 refine WL.append (n := 0) (m := n) (ys := ptsC (R.take n)) 2 rfl rfl rfl (Rd.ownN (n * 2) 1 rfl (ptsC_take R _ n h4)) (by rw [ptsC_len, List.length_take]; omega) (ptsC_one _) (by rfl) (by decide) h0 (by omega) (by unfold maxLen; omega) rfl fun g2 cap => ?_
 refine WL.nSet ?_
 rw [Nat.zero_add]
 refine jh rfl (jM (jR ?_))
 refine jP [0, 0] (jr1 rfl (jtS rfl)) ?_
 have hl : (R.take n).length = n := by rw [List.length_take]; omega
 exact ⟨rfl, some ⟨g2, 0, none⟩, cap, sl 27 2 (.slice (some ⟨g2, 0, none⟩) n cap) n (ptsC (R.take n)), rfl, rfl, (R.take n).map Pt.cs, by rw [hl], pts_all2 fun p hp => Pt.inn_ok (hin p (List.mem_of_mem_take hp))⟩
theorem halvesP (l R : List Pt) (v : Value) (I : Mem) (hv : LsAt Pt.rep I l v) (h3 : 3 ≤ l.length) (h4 : l.length ≤ 4) (hall : ∀ p ∈ l, p.inn) (hR : R = l ++ List.replicate (4 - l.length) Pt.z) :
  Ctr Tryz.prog 162 [v] I [] (KeepR [] fun r I' => ∃ w1 w2, r = .tuple #[w1, w2, vi 0] ∧ LsAt Pt.rep I' ((outer l.length R l.length).2.1.take l.length) w1 ∧ LsAt Pt.rep I' ((outer l.length R l.length).2.2.take l.length) w2) := by
 have hv0 := hv
 have hRl : R.length = 4 := by rw [hR, List.length_append, List.length_replicate]; omega
 have hin : ∀ p ∈ R, p.inn := fun p hp => by
  rw [hR] at hp
  rcases List.mem_append.1 hp with hp | hp
  ·exact hall p hp
  ·rw [List.eq_of_mem_replicate hp]; exact Pt.z_inn
 obtain ⟨hl1, hl2, hl3⟩ := outer_len l.length hRl l.length
 obtain ⟨hi2, hi3⟩ := outer_in2 l.length hin l.length
 have hlen : ∀ q : List Pt, q.length = 4 → (rowC q l.length).length = 9 := fun q h => by rw [List.length_append, ptsC_len, h]; rfl
 have hn8 : ∀ q : List Pt, q.length = 4 → (rowC q l.length)[0 + 8]? = some (vi l.length) := fun q h => by rw [List.getElem?_append_right (by rw [ptsC_len, h]; decide), ptsC_len, h]; rfl
 obtain ⟨a1, c1, rfl⟩ := hv.sl
 refine Ctr.intro Tryz.func162 rfl rfl rfl fun E F => ?_
 refine jS (jh rfl (jh rfl (jf rfl (jM (jB (jS (jc rfl (WL.callS rfl rfl (check_ctr l _ _ hv0 hall h3 h4) rfl ?_))))))))
 rintro _ rfl
 refine jf rfl (jN (ja rfl (jz rfl rfl (jM (jE (jV (jK (jc rfl (WL.callS rfl rfl (rowOf_ctr l R _ _ hv0 h3 h4 hR) rfl ?_)))))))))
 rintro _ rfl
 skip
 refine WL.callS rfl rfl (halves_ctr l.length R _ h3 h4 hRl hin) rfl ?_
 rintro _ rfl
 generalize (outer l.length R l.length).2.1 = A at *
 generalize (outer l.length R l.length).2.2 = B at *
 refine je rfl (jm (Val.extractA rfl rfl) (jm (Val.extractA rfl rfl) (WL.alloc rfl (fun _ => ?_))))
 refine jW ?_
 refine WL.alloc rfl (fun _ => ?_)
 refine jW ?_
 rename_i g6 g7
 refine WL.stG 1 rfl rfl rfl (hlen _ hl2) (rowC_one _ _) (by show 0 + 9 ≤ 9; omega) (splice_all (hlen _ hl2)) ?_
 skip
 refine WL.stG 2 rfl rfl rfl (hlen _ hl3) (rowC_one _ _) (by show 0 + 9 ≤ 9; omega) (splice_all (hlen _ hl3)) ?_
 refine jM (jB (j8 999 [1, 1] rfl (jT 0 rfl (jn rfl) (jT 1 rfl (jn rfl) (jT 2 rfl (Val.loadS rfl (Rd.own1 0 rfl (hn8 A hl2))) ?_)))))
 refine jT 3 rfl (Val.sliceA (l := 0) (h := l.length) rfl (.none _) (.some (e := (l.length : Int)) rfl (Int.natCast_nonneg _)) (by omega) (by omega)) ?_
 refine jT 5 rfl (jn rfl) (jT 6 rfl (jn rfl) (jT 7 rfl (Val.loadS rfl (Rd.own1 1 rfl (hn8 B hl3))) ?_))
 refine jT 8 rfl (Val.sliceA (l := 0) (h := l.length) rfl (.none _) (.some (e := (l.length : Int)) rfl (Int.natCast_nonneg _)) (by omega) (by omega)) ?_
 refine j5 4 rfl (WL.callP [1] rfl rfl (cloneP g6 l.length l.length A _ (by omega) (by omega) hl2 hi2) rfl ?_)
 rintro _ I1 _ hI1 ⟨rfl, a, c, p, rfl, rfl, hp⟩
 refine jW ?_
 refine WL.freezeL 3 rfl hp fun I3 hI3 hw => ?_
 refine jC (j9 [2, 1] (hI3) rfl (j5 9 rfl (WL.callP [1] rfl rfl (cloneP g7 l.length l.length B _ (by omega) (by omega) hl3 hi3) rfl ?_)))
 rintro _ I4 _ hI4 ⟨rfl, a2, c2, p2, rfl, rfl, hp2⟩
 refine jW ?_
 refine WL.freezeL 3 rfl hp2 fun I5 hI5 hw2 => ?_
 refine jC (j9 [1, 1] ((hI3.trans hI5)) rfl (jT 10 rfl (Val.assignS rfl) (jT 11 rfl (Val.assignS rfl) (jT 12 rfl (Val.assignI rfl) (j6 (jA (jR ?_)))))))
 have hJ := hI3.trans hI5
 exact jP [] (jr3 rfl (ResIs.tmp rfl) (ResIs.tmp rfl) (jtI rfl)) ⟨rfl, _, _, rfl, hw.mono hI5, hw2⟩
end Go.Proofs.YtggcpoleklcmkaaGreatDoor

namespace Go.Dc
open Go.Sl Go.Ls
theorem point_at (x : Sg) (k : Nat) (hk : k < 3) : (x.cs.drop (1 + k * 2)).take 2 = (x.point k).cs := by
 have : k = 0 ∨ k = 1 ∨ k = 2 := by omega
 rcases this with rfl | rfl | rfl <;> rfl
theorem pts_cs (x : Sg) (hm : need x.kind ≤ 3) : (x.cs.drop 1).take (need x.kind * 2) = ptsC x.pts := by
 have : need x.kind = 0 ∨ need x.kind = 1 ∨ need x.kind = 2 ∨ need x.kind = 3 := by omega
 rw [Sg.pts]
 rcases this with h | h | h | h <;> rw [h] <;> rfl
theorem pts_len (x : Sg) (hm : need x.kind ≤ 3) : x.pts.length = need x.kind := by
 rw [Sg.pts, List.length_take]
 show min (need x.kind) 3 = _
 omega
theorem parts_q (f : Pt) (x : Sg) (h : x.kind = 3 ∨ x.kind = 4) : ∃ n R, n = (f :: x.pts).length ∧ n = need x.kind + 1 ∧ R = f :: x.pts ++ List.replicate (4 - n) Pt.z ∧ 3 ≤ n ∧ n ≤ 4 ∧
  splice x.cs 1 (ptsC (((outer n R n).2.1.take n).drop 1)) = (x.parts f).1.cs ∧ splice x.cs 1 (ptsC (((outer n R n).2.2.take n).drop 1)) = (x.parts f).2.cs := by
 obtain ⟨kind, p0, p1, p2⟩ := x
 simp only at h
 rcases h with rfl | rfl
 ·exact ⟨3, _, rfl, rfl, rfl, by decide, by decide, rfl, rfl⟩
 ·exact ⟨4, _, rfl, rfl, rfl, by decide, by decide, rfl, rfl⟩
theorem ptsC_drop (l : List Pt) : (ptsC l).drop 2 = ptsC (l.drop 1) := by
 cases l with
 | nil => rfl
 | cons p l => rfl
theorem parts_ok {f : Pt} {x : Sg} (hx : x.ok) (hf : f.inn) (hk : x.kind = 2 ∨ x.kind = 3 ∨ x.kind = 4) (h0 : x.p0.inn) (h1 : x.kind ≠ 2 → x.p1.inn) (h2 : x.kind = 4 → x.p2.inn) : (x.parts f).1.ok ∧ (x.parts f).2.ok := by
 rw [Sg.parts]
 rcases hk with k | k | k
 ·rw [if_pos k]
  exact ⟨⟨hx.1, Pt.inn_ok (mid_inn hf h0), hx.2.2⟩, hx⟩
 ·have h1 := h1 (by omega)
  rw [if_neg (by omega), if_pos k]
  exact ⟨⟨hx.1, Pt.inn_ok (mid_inn hf h0), Pt.inn_ok (mid_inn (mid_inn hf h0) (mid_inn h0 h1)), hx.2.2.2⟩, ⟨hx.1, Pt.inn_ok (mid_inn h0 h1), Pt.inn_ok h1, hx.2.2.2⟩⟩
 ·have h1 := h1 (by omega)
  have h2 := h2 k
  rw [if_neg (by omega), if_neg (by omega)]
  exact ⟨⟨hx.1, Pt.inn_ok (mid_inn hf h0), Pt.inn_ok (mid_inn (mid_inn hf h0) (mid_inn h0 h1)), Pt.inn_ok (mid_inn (mid_inn (mid_inn hf h0) (mid_inn h0 h1)) (mid_inn (mid_inn h0 h1) (mid_inn h1 h2)))⟩, ⟨hx.1, Pt.inn_ok (mid_inn (mid_inn h0 h1) (mid_inn h1 h2)), Pt.inn_ok (mid_inn h1 h2), Pt.inn_ok h2⟩⟩
end Go.Dc
namespace Go.Proofs.YtggcpoleklcmkaaGreatDoor
open Go.Sl Go.Ls Go.Dc
attribute [local irreducible] WC WL WX WK WA WAK Val Ctr RunRes ResIs Rd At sl box pt Exit.then Exit.inBlock bodyPost Code.wp wpList
theorem pSplit (l : List Sg) (i : Int) (v : Value) (I : Mem) (hN : NeedAt I) (hv : LsAt Sg.rep I l v) : Ctr Tryz.prog 139 [v, vi i] I [] (KeepR [] (PathR (pathSplit l i))) := by
 have hv0 := hv
 obtain ⟨a1, c1, rfl⟩ := hv.sl
 refine Ctr.intro Tryz.func139 rfl rfl rfl fun E F => ?_
 refine jS (jh rfl (jf rfl (jM (jB (jS (jc rfl (ja rfl (WL.callS rfl rfl (at_ctr l i _ _ hN hv0) rfl ?_))))))))
 rintro _ rfl
 by_cases h : atSeg l i = 0
 case neg =>
  rw [show pathSplit l i = ([], atSeg l i) by rw [pathSplit, if_pos h]]
  refine jf rfl (jM (WC.block (jS (ja rfl (jJ rfl rfl (jg rfl (jM (jF (jS (ja rfl (jh rfl (jf rfl (jM (jR (WX.inRet (jU ?_))))))))))))))))
  exact jP [] (jr2 rfl (jtS rfl) (jtI rfl)) ⟨rfl, _, rfl, LsAt.nil _ _⟩
 obtain ⟨hpc, hi0, hi1, hl4⟩ := atSeg_ok h
 obtain ⟨j, rfl⟩ : ∃ j : Nat, i = j := ⟨i.toNat, by omega⟩
 have hj : j < l.length := by omega
 have hps : pathSplit l j = if (l[j]).kind = 1 ∨ (l[j]).kind = 5 then ([], 33) else if l.length = 4096 then ([], 36)
   else (l.take j ++ ((l[j]).parts ((sgAt l ((j : Int) - 1)).point (need (sgAt l ((j : Int) - 1)).kind - 1))).1 :: ((l[j]).parts ((sgAt l ((j : Int) - 1)).point (need (sgAt l ((j : Int) - 1)).kind - 1))).2 :: l.drop (j + 1), 0) := by
  rw [pathSplit, if_neg (fun e => e h), sgAt_nat hj, Int.toNat_natCast]
 rw [hps]
 clear hps
 obtain ⟨b, off, cap, cs, he, ⟨rfl, hx⟩, hA⟩ := hv0.get j hj
 cases he
 have hfacts := split_facts hpc hj
 have hA0 : At I b (off + (j : Int).toNat * 7) [vi (l[j]).kind] := hA.zero rfl
 by_cases k1 : (l[j]).kind = 1
 ·rw [if_pos (.inl k1)]
  rw [k1] at hA0
  refine jf rfl (jM (WC.block (jS (ja rfl (jz rfl rfl (jg rfl (jM (jE (jS (jc rfl (ja rfl (jm (jZ rfl rfl) (jm (jn rfl) (jm (Val.loadS rfl (Rd.imm (by assumption))) ?_))))))))))))))
  refine jw rfl rfl (jb rfl (jH (jH (jH (jH (jH (jH (jk rfl (jg rfl (jM (jF (jS (jh rfl (jf rfl (jM (jR (WX.inRet (jU ?_))))))))))))))))))
  exact jP [] (jr2 rfl (jtS rfl) (jtI rfl)) ⟨rfl, _, rfl, LsAt.nil _ _⟩
 by_cases k5 : (l[j]).kind = 5
 ·rw [if_pos (.inr k5)]
  rw [k5] at hA0
  refine jf rfl (jM (WC.block (jS (ja rfl (jz rfl rfl (jg rfl (jM (jE (jS (jc rfl (ja rfl (jm (jZ rfl rfl) (jm (jn rfl) (jm (Val.loadS rfl (Rd.imm (by assumption))) ?_))))))))))))))
  refine jv rfl rfl (jb rfl (jG (jc rfl (jG (ja rfl (jG (jm (jZ rfl rfl) (jG (jm (jn rfl) (jG (jm (Val.loadS rfl (Rd.imm (by assumption))) ?_)))))))))))
  refine jG (jw rfl rfl (jk rfl (jg rfl (jM (jF (jS (jh rfl (jf rfl (jM (jR (WX.inRet (jU ?_))))))))))))
  exact jP [] (jr2 rfl (jtS rfl) (jtI rfl)) ⟨rfl, _, rfl, LsAt.nil _ _⟩
 rw [if_neg (by omega)]
 by_cases k6 : l.length = 4096
 ·rw [if_pos k6]
  refine jf rfl (jM (WC.block (jS (ja rfl (jz rfl rfl (jg rfl (jM (jE (jS (jc rfl (ja rfl (jm (jZ rfl rfl) (jm (jn rfl) (jm (Val.loadS rfl (Rd.imm (by assumption))) ?_))))))))))))))
  refine jv rfl rfl (jb rfl (jG (jc rfl (jG (ja rfl (jG (jm (jZ rfl rfl) (jG (jm (jn rfl) (jG (jm (Val.loadS rfl (Rd.imm (by assumption))) ?_)))))))))))
  refine jG (jv rfl rfl (jk rfl (jg rfl (jM (jE (jS (jc rfl (jm (jo rfl) (jw rfl rfl (jg rfl (jM (jF (jS (jh rfl (jf rfl (jM (jR (WX.inRet (jU ?_)))))))))))))))))))
  exact jP [] (jr2 rfl (jtS rfl) (jtI rfl)) ⟨rfl, _, rfl, LsAt.nil _ _⟩
 rw [if_neg k6]
 obtain ⟨hj0, hn1, hfin, hkx, hp0, hp1, hp2⟩ := hfacts k1 k5
 have hj1 : ((j : Int) - 1) = ((j - 1 : Nat) : Int) := by omega
 rw [hj1, sgAt_nat (by omega : j - 1 < l.length)]
 obtain ⟨b2, off2, cap2, cs2, he2, ⟨rfl, hy⟩, hB⟩ := hv0.get (j - 1) (by omega)
 cases he2
 have hB0 : At I b (off + ((j : Int) - 1).toNat * 7) [vi (l[j - 1]).kind] := by rw [hj1]; exact hB.zero rfl
 generalize hgx : l[j] = x at *
 generalize hgy : l[j - 1] = y at *
 have hny := need_le y.kind
 have hB1 : At I b (off + ((j : Int) - 1).toNat * 7 + 1 + ((need y.kind : Int) - 1).toNat * 2) (y.point (need y.kind - 1)).cs := by
  rw [← point_at y (need y.kind - 1) (by omega), hj1, show ((need y.kind : Int) - 1).toNat = need y.kind - 1 by omega, Nat.add_assoc]
  exact At.sub _ hB rfl
 generalize hf : y.point (need y.kind - 1) = f at *
 have hcp := hv0.cap
 have ht := hv0.takeG j (by omega)
 have hd := hv0.dropG (j + 1) (by omega)
 refine jf rfl (jM (WC.block (jS (ja rfl (jz rfl rfl (jg rfl (jM (jE (jS (jc rfl (ja rfl (jm (jZ rfl rfl) (jm (jn rfl) (jm (Val.loadS rfl (Rd.imm (by assumption))) ?_))))))))))))))
 refine jv rfl rfl (jb rfl (jG (jc rfl (jG (ja rfl (jG (jm (jZ rfl rfl) (jG (jm (jn rfl) (jG (jm (Val.loadS rfl (Rd.imm (by assumption))) ?_)))))))))))
 refine jG (jv rfl rfl (jk rfl (jg rfl (jM (jE (jS (jc rfl (jm (jo rfl) (jv rfl rfl (jg rfl (jM (jE (jV (WX.inNormal (jK (jc rfl (ja rfl (jm (jZ rfl rfl) (jm (Val.loadI rfl hA rfl) ?_)))))))))))))))))))
 refine WL.alloc rfl (fun _ => ?_)
 refine jW ?_
 refine WL.stA 1 rfl rfl rfl rfl ?_
 refine jM (jB ?_)
 rename_i g7
 refine WC.cutP (fun ρ' I' L' => ∃ g8, I' = I ∧ ρ' 0 = .slice (some ⟨b, off, none⟩) l.length c1 ∧ ρ' 1 = vi j ∧ ρ' 7 = ptr g7 ∧ ρ' 8 = ptr g8 ∧ L' = [F, box g7 57 x.cs, box g8 27 f.cs]) ?_ ?_
 ·skip
  refine j8 999 [] rfl (jT 0 rfl (Val.moveS rfl) (jT 1 rfl (Val.moveI rfl) (jT 2 rfl (Val.sub rfl rfl (wrap_i64 (by omega) (by omega))) ?_)))
  refine jT 3 rfl (Val.moveS rfl) (jT 4 rfl (Val.moveI rfl) (jT 5 rfl (Val.sub rfl rfl (wrap_i64 (by omega) (by omega))) ?_))
  refine jT 6 rfl (jZ rfl rfl) (jT 7 rfl (jn rfl) (jT 8 rfl (Val.loadS rfl (Rd.imm hB0)) ?_))
  refine jT 11 rfl (jZ rfl rfl) (jT 12 rfl (jn rfl) ?_)
  refine jee 9 15 rfl rfl ?_ ?_
  ·refine WL.callS rfl rfl (need_ctr y.kind _ hN) rfl ?_
   rintro _ rfl
   refine jC (j7 [] rfl (jT 10 rfl (Val.sub rfl rfl (wrap_i64 (by omega) (by omega))) ?_))
   refine jT 13 rfl (Val.indexAddrA rfl rfl (by omega) (by omega)) ?_
   refine jT 14 rfl (Val.loadI rfl hB1 rfl) ?_
   refine j5 15 rfl (WL.alloc rfl (fun _ => ?_))
   rename_i g8
   refine jW ?_
   refine jC (j7 [] rfl (j5 16 rfl (WL.stA 2 rfl rfl rfl rfl ?_)))
   refine jC (j7 [] rfl (j6 ?_))
   refine WX.thenK (WK.meet ?_)
   exact ⟨g8, rfl, rfl, rfl, rfl, rfl, rfl⟩
  ·skip
   refine WL.alloc rfl (fun _ => ?_)
   rename_i g8
   refine jW ?_
   refine jC (j7 [] rfl (j5 9 rfl (WL.callS rfl rfl (need_ctr y.kind _ hN) rfl ?_)))
   rintro _ rfl
   refine jC (j7 [] rfl (jT 10 rfl (Val.sub rfl rfl (wrap_i64 (by omega) (by omega))) ?_))
   refine jT 13 rfl (Val.indexAddrA rfl rfl (by omega) (by omega)) ?_
   refine jT 14 rfl (Val.loadI rfl hB1 rfl) ?_
   refine j5 16 rfl (WL.stA 2 rfl rfl rfl rfl ?_)
   refine jC (j7 [] rfl (j6 ?_))
   refine WX.thenK (WK.meet ?_)
   exact ⟨g8, rfl, rfl, rfl, rfl, rfl, rfl⟩
 rintro ρ' I' L' ⟨g8, rfl, r0, r1, r7, r8, rfl⟩
 refine ju4 r8 r7 r1 r0 ?_
 obtain ⟨hka, hkb⟩ := parts_ok hx hfin hkx hp0 hp1 hp2
 refine WC.cut (fun ρ2 I2 L2 => ∃ g9 g10, I2 = I' ∧ ρ2 0 = .slice (some ⟨b, off, none⟩) l.length c1 ∧ ρ2 1 = vi j ∧ ρ2 7 = ptr g7 ∧ ρ2 8 = ptr g8 ∧ ρ2 9 = ptr g9 ∧ ρ2 10 = ptr g10 ∧ L2 = [F, box g7 57 x.cs, box g8 27 f.cs, box g9 57 x.cs, box g10 57 x.cs]) ?_ ?_
 ·skip
  refine jD (jm (jt 1 rfl rfl rfl) (jm (jt 1 rfl rfl rfl) (WL.alloc rfl (fun _ => ?_))))
  refine jW ?_
  refine WL.alloc rfl (fun _ => ?_)
  refine jW ?_
  refine WL.stA 3 rfl rfl rfl rfl ?_
  refine WL.stA 4 rfl rfl rfl rfl ?_
  refine jC ?_
  rename_i g9 g10
  refine WX.thenK (WK.meet ?_)
  exact ⟨g9, g10, rfl, rfl, rfl, rfl, rfl, rfl, rfl, rfl⟩
 rintro ρ2 I2 L2 ⟨g9, g10, rfl, r0, r1, r7, r8, r9, r10, rfl⟩
 refine ju6 r10 r9 r8 r7 r1 r0 ?_
 refine WC.cut (fun ρ3 I3 L3 => I2.le I3 ∧ ρ3 0 = .slice (some ⟨b, off, none⟩) l.length c1 ∧ ρ3 1 = vi j ∧ ρ3 9 = ptr g9 ∧ ρ3 10 = ptr g10 ∧ L3 = [F, box g7 57 x.cs, box g8 27 f.cs, box g9 57 (x.parts f).1.cs, box g10 57 (x.parts f).2.cs]) ?_ ?_
 ·rcases hkx with k2 | k34
  ·have hxp : x.parts f = ({ x with p0 := mid f x.p0 }, x) := by rw [Sg.parts, if_pos k2]
   rw [hxp]
   refine jS (jm (jn rfl) (jm (jp 1 rfl rfl rfl) (jw rfl rfl (jM (jF (jD (jm (jt 2 rfl rfl rfl) (jm (jn rfl) (jm (Val.indexAddrA rfl rfl (by omega) (by omega)) ?_)))))))))
   refine jm (Val.loadO 1 rfl rfl rfl) ?_
   refine WL.callS rfl rfl (mid_ctr f x.p0 _ hfin hp0) rfl ?_
   rintro _ rfl
   refine jm (jn rfl) (jm (Val.indexAddrA rfl rfl (by omega) (by omega)) ?_)
   refine WL.store 3 rfl rfl rfl ?_
   refine WL.nSet ?_
   refine jC ?_
   refine WX.thenK (WK.meet ?_)
   exact ⟨Mem.le.refl _, rfl, rfl, rfl, rfl, rfl⟩
  obtain ⟨n, R, hn, hnk, hR, hn3, hn4, hq1, hq2⟩ := parts_q f x k34
  have hk2 : x.kind ≠ 2 := by omega
  have hRl : R.length = 4 := by rw [hR, List.length_append, List.length_replicate, ← hn]; omega
  have hnx := need_le x.kind
  have hin : ∀ p ∈ f :: x.pts, p.inn := fun p hp => by
   rcases List.mem_cons.1 hp with rfl | hp
   ·exact hfin
   ·rcases k34 with k | k
    ·rw [show x.pts = [x.p0, x.p1] by rw [Sg.pts, k]; rfl] at hp
     rcases List.mem_cons.1 hp with rfl | hp
     ·exact hp0
     ·rw [List.mem_singleton.1 hp]; exact hp1 hk2
    ·rw [show x.pts = [x.p0, x.p1, x.p2] by rw [Sg.pts, k]; rfl] at hp
     rcases List.mem_cons.1 hp with rfl | hp
     ·exact hp0
     ·rcases List.mem_cons.1 hp with rfl | hp
      ·exact hp1 hk2
      ·rw [List.mem_singleton.1 hp]; exact hp2 k
  refine jS (jm (jn rfl) (jm (jp 1 rfl rfl rfl) (jv rfl rfl (jM (jE (jB ?_))))))
  refine WC.cutP (fun ρ3 I3 L3 => ∃ w1 w2, I2.le I3 ∧ ρ3 0 = .slice (some ⟨b, off, none⟩) l.length c1 ∧ ρ3 1 = vi j ∧ ρ3 9 = ptr g9 ∧ ρ3 10 = ptr g10 ∧ ρ3 11 = w1 ∧ ρ3 12 = w2 ∧ L3 = [F, box g7 57 x.cs, box g8 27 f.cs, box g9 57 x.cs, box g10 57 x.cs] ∧ LsAt Pt.rep I3 ((outer n R n).2.1.take n) w1 ∧ LsAt Pt.rep I3 ((outer n R n).2.2.take n) w2) ?_ ?_
  ·skip
   refine j8 999 [1, 1] rfl (jT 0 rfl (jt 1 rfl rfl rfl) ?_)
   refine jee 1 2 rfl rfl ?_ ?_
   ·skip
    refine WL.buildSlice (by with_unfolding_all exact rfl) rfl (by with_unfolding_all exact rfl) rfl (fun _ => ?_)
    rename_i g
    refine jW ?_
    refine jC (j7 [1, 1] rfl (j5 2 rfl (WL.callK [1] rfl rfl rfl (points_ctr x g7 _ hN) rfl ?_)))
    rintro _ rfl
    refine jC (j7 [1, 1] rfl (j5 3 rfl (WL.boxSl (e := 27) (sz := 2) (n := 1) (xs := f.cs) 5 rfl rfl (by decide) ?_)))
    refine WL.append (n := 1) (m := need x.kind) (ys := ptsC x.pts) 5 rfl rfl rfl (Rd.ownN _ 1 rfl (pts_cs x hnx)) (by rw [ptsC_len, pts_len x hnx]) (ptsC_one _) (by rfl) (by decide) (by omega) (by omega) (by unfold maxLen; omega) rfl fun g2 cap3 => ?_
    refine WL.nSet ?_
    rw [show 1 + need x.kind = (f :: x.pts).length by omega]
    refine WL.freezeL (R := Pt.rep) (l := f :: x.pts) 5 rfl ⟨(f :: x.pts).map Pt.cs, rfl, pts_all2 fun p hp => Pt.inn_ok (hin p hp)⟩ fun I1 hI1 hw => ?_
    refine jC (j9 [1, 1] (hI1) rfl (j5 4 rfl (WL.callR [] rfl rfl rfl (halvesP (f :: x.pts) R _ _ hw (by omega) (by omega) hin (by rw [← hn]; exact hR)) rfl ?_)))
    rintro _ I4 hI4 ⟨w1, w2, rfl, hw1, hw2⟩
    rw [← hn] at hw1 hw2
    refine jC (j9 [1, 1] ((hI1.trans hI4)) rfl (jT 5 rfl (Val.moveT rfl) (jT 6 rfl (Val.extract rfl rfl) ?_)))
    refine jT 7 rfl (Val.extract rfl rfl) ?_
    refine jT 8 rfl (jq rfl rfl) (jT 9 rfl Val.assign ?_)
    refine jT 10 rfl Val.assign ?_
    refine jT 11 rfl (Val.assignI rfl) (j6 ?_)
    refine WX.thenK (WK.meet ?_)
    exact ⟨w1, w2, hI1.trans hI4, rfl, rfl, rfl, rfl, rfl, rfl, rfl, hw1, hw2⟩
   ·refine WL.callK [1] rfl rfl rfl (points_ctr x g7 _ hN) rfl ?_
    rintro _ rfl
    refine jC (j7 [1, 1] rfl (j5 1 rfl (WL.buildSlice (by with_unfolding_all exact rfl) rfl (by with_unfolding_all exact rfl) rfl (fun _ => ?_))))
    rename_i g
    refine jW ?_
    refine jC (j7 [1, 1] rfl (j5 3 rfl (WL.boxSl (e := 27) (sz := 2) (n := 1) (xs := f.cs) 5 rfl rfl (by decide) ?_)))
    refine WL.append (n := 1) (m := need x.kind) (ys := ptsC x.pts) 5 rfl rfl rfl (Rd.ownN _ 1 rfl (pts_cs x hnx)) (by rw [ptsC_len, pts_len x hnx]) (ptsC_one _) (by rfl) (by decide) (by omega) (by omega) (by unfold maxLen; omega) rfl fun g2 cap3 => ?_
    refine WL.nSet ?_
    rw [show 1 + need x.kind = (f :: x.pts).length by omega]
    refine WL.freezeL (R := Pt.rep) (l := f :: x.pts) 5 rfl ⟨(f :: x.pts).map Pt.cs, rfl, pts_all2 fun p hp => Pt.inn_ok (hin p hp)⟩ fun I1 hI1 hw => ?_
    refine jC (j9 [1, 1] (hI1) rfl (j5 4 rfl (WL.callR [] rfl rfl rfl (halvesP (f :: x.pts) R _ _ hw (by omega) (by omega) hin (by rw [← hn]; exact hR)) rfl ?_)))
    rintro _ I4 hI4 ⟨w1, w2, rfl, hw1, hw2⟩
    rw [← hn] at hw1 hw2
    refine jC (j9 [1, 1] ((hI1.trans hI4)) rfl (jT 5 rfl (Val.moveT rfl) (jT 6 rfl (Val.extract rfl rfl) ?_)))
    refine jT 7 rfl (Val.extract rfl rfl) ?_
    refine jT 8 rfl (jq rfl rfl) (jT 9 rfl Val.assign ?_)
    refine jT 10 rfl Val.assign ?_
    refine jT 11 rfl (Val.assignI rfl) (j6 ?_)
    refine WX.thenK (WK.meet ?_)
    exact ⟨w1, w2, hI1.trans hI4, rfl, rfl, rfl, rfl, rfl, rfl, rfl, hw1, hw2⟩
  rintro ρ3 I3 L3 ⟨w1, w2, hI3, r0, r1, r9, r10, r11, r12, rfl, hw1, hw2⟩
  refine ju6 r12 r11 r10 r9 r1 r0 ?_
  have hlA : ((outer n R n).2.1.take n).length = n := by rw [List.length_take, (outer_len n hRl n).2.1]; omega
  have hlB : ((outer n R n).2.2.take n).length = n := by rw [List.length_take, (outer_len n hRl n).2.2]; omega
  generalize (outer n R n).2.1.take n = A at *
  generalize (outer n R n).2.2.take n = B at *
  obtain ⟨ba, oa, qa, rfl, hCa⟩ := pts_at hw1 (by omega)
  obtain ⟨bb, ob, qb, rfl, hCb⟩ := pts_at hw2 (by omega)
  have hqa := hw1.cap
  have hqb := hw2.cap
  have hDa := hCa.drop 2
  have hDb := hCb.drop 2
  rw [ptsC_drop] at hDa hDb
  have hdA : (A.drop 1).length = n - 1 := by rw [List.length_drop, hlA]
  have hdB : (B.drop 1).length = n - 1 := by rw [List.length_drop, hlB]
  rw [hlA] at hqa ⊢
  rw [hlB] at hqb ⊢
  refine jB (j8 999 [] rfl (jT 0 rfl (jn rfl) (jT 1 rfl (Val.sliceA (l := 0) (h := 3) rfl (.none _) (.none _) (by omega) (by omega)) ?_)))
  refine jT 2 rfl (Val.moveS rfl) (jT 3 rfl (Val.sliceFrom (m := 1) rfl rfl (by omega) (by omega) (by omega)) ?_)
  refine j5 4 rfl (WL.copyN (m := n - 1) (ys := ptsC (A.drop 1)) 3 rfl rfl rfl (Rd.imm hDa) (Nat.min_eq_left (by omega)) (by rw [ptsC_len, hdA]) (ptsC_one _) (by rw [ptsC_len, hdA]; show 1 + 0 * 2 + (n - 1) * 2 ≤ 7; omega) rfl ?_)
  change WL _ _ _ _ _ (List.set _ 3 (box g9 _ (splice x.cs 1 (ptsC (A.drop 1))))) _
  rw [hq1]
  refine WL.nSet ?_
  refine jC (j7 [] rfl (j6 (jA (j8 999 [] rfl (jT 0 rfl (jn rfl) (jT 1 rfl (Val.sliceA (l := 0) (h := 3) rfl (.none _) (.none _) (by omega) (by omega)) ?_))))))
  refine jT 2 rfl (Val.moveS rfl) (jT 3 rfl (Val.sliceFrom (m := 1) rfl rfl (by omega) (by omega) (by omega)) ?_)
  refine j5 4 rfl (WL.copyN (m := n - 1) (ys := ptsC (B.drop 1)) 4 rfl rfl rfl (Rd.imm hDb) (Nat.min_eq_left (by omega)) (by rw [ptsC_len, hdB]) (ptsC_one _) (by rw [ptsC_len, hdB]; show 1 + 0 * 2 + (n - 1) * 2 ≤ 7; omega) rfl ?_)
  change WL _ _ _ _ _ (List.set _ 4 (box g10 _ (splice x.cs 1 (ptsC (B.drop 1))))) _
  rw [hq2]
  refine WL.nSet ?_
  refine jC (j7 [] rfl (j6 ?_))
  refine WX.thenK (WK.meet ?_)
  exact ⟨hI3, rfl, rfl, rfl, rfl, rfl⟩
 rintro ρ3 I3 L3 ⟨hI3, r0, r1, r9, r10, rfl⟩
 refine ju4 r10 r9 r1 r0 ?_
 generalize (x.parts f).1 = a at hka ⊢
 generalize (x.parts f).2 = b' at hkb ⊢
 refine jB (j8 999 [3, 3] rfl (jT 0 rfl (Val.moveS rfl) (jT 1 rfl (Val.moveI rfl) (jT 2 rfl (Val.sliceToG (m := j) rfl (fun h => hv0.adr (by omega)) rfl (by omega)) ?_))))
 refine jT 3 rfl (jt 0 rfl rfl rfl) (jT 4 rfl (jt 1 rfl rfl rfl) (jT 6 rfl (Val.moveS rfl) (jT 7 rfl (Val.moveI rfl) (jT 8 rfl (Val.add rfl rfl (wrap_i64 (by omega) (by omega))) ?_))))
 refine jT 9 rfl (Val.sliceFromG (m := j + 1) rfl rfl rfl (by omega) (by omega)) ?_
 refine j5 5 rfl (WL.buildSlice (by with_unfolding_all exact rfl) rfl (by with_unfolding_all exact rfl) rfl (fun _ => ?_))
 rename_i g6
 refine jW ?_
 refine WL.lit (R := Sg.rep) (l := [a, b']) (css := [a.cs, b'.cs]) (sz := 7) 5 rfl ⟨⟨rfl, hka⟩, ⟨rfl, hkb⟩, trivial⟩ rfl (by simp [maxLen]) fun I0 hI0 hone => ?_
 refine jC (j9 [3, 3] (hI0) rfl (j5 10 rfl (WL.buildSlice (by with_unfolding_all exact rfl) rfl (by with_unfolding_all exact rfl) rfl (fun _ => ?_))))
 rename_i g
 refine jW ?_
 refine jC (j9 [3, 3] (hI0) rfl (j5 11 rfl ?_))
 refine WL.callP [5] rfl rfl (concat_ctr [(l.take j, _), ([a, b'], _), (l.drop (j + 1), _)] g _ (fun k hk => by
   have : k = 0 ∨ k = 1 ∨ k = 2 := by simp only [List.length_cons, List.length_nil] at hk; omega
   rcases this with rfl | rfl | rfl
   ·exact ht.mono (hI3.trans hI0)
   ·exact hone
   ·exact hd.mono (hI3.trans hI0)) (by rw [parts3, List.length_append, List.length_take, List.length_append, List.length_drop, List.length_cons, List.length_singleton]; omega) (by simp)) rfl ?_
 rintro _ I1 _ hI1 ⟨rfl, a2, c2, p, rfl, rfl, hp⟩
 rw [parts3] at hp ⊢
 refine jW ?_
 refine WL.freezeL 6 rfl hp fun I5 hI5 hw => ?_
 refine jC (j9 [3, 3] ((hI0.trans hI5)) rfl (jT 12 rfl (Val.assignS rfl) (jT 13 rfl (Val.assignI rfl) (j6 (jA (jR ?_))))))
 have hJ := (hI3.trans hI0).trans hI5
 exact jP [] (jr2 rfl (ResIs.tmp rfl) (jtI rfl)) ⟨rfl, _, rfl, hw⟩
end Go.Proofs.YtggcpoleklcmkaaGreatDoor

namespace Go.Dc
open Go.Sl Go.Ls
theorem del_at {l : List Sg} {i : Int} (h : (pathDelete l i).2 = 0) : atSeg l i = 0 := by
 rw [pathDelete] at h
 split at h
 ·exact h
 ·rename_i h1; exact Decidable.of_not_not h1
theorem put_at {l : List Sg} {i k : Int} {p : Pt} (h : (pathPut l i k p).2 = 0) : atSeg l i = 0 ∧ 0 ≤ k ∧ k < 3 := by
 rw [pathPut] at h
 split at h
 ·rename_i h1; exact absurd h h1
 ·rename_i h1
  split at h
  ·exact absurd h (by show ¬ (30 : Int) = 0; decide)
  ·have := need_le (sgAt l i).kind
   exact ⟨Decidable.of_not_not h1, by omega, by omega⟩
theorem point_ok {x : Sg} (h : x.ok) (k : Nat) : (x.point k).ok := by
 rw [Sg.point]
 split
 ·exact h.2.1
 ·split
  ·exact h.2.2.1
  ·exact h.2.2.2
theorem at_elem {I : Mem} {l : List Sg} {a : Option Addr} {n cap : Nat} {i : Int} (hv : LsAt Sg.rep I l (.slice a n cap)) (h : atSeg l i = 0) :
  0 ≤ i ∧ i < l.length ∧ ∃ b off x, a = some ⟨b, off, none⟩ ∧ sgAt l i = x ∧ x.ok ∧ At I b (off + i.toNat * 7) x.cs ∧ ∀ k < 3, At I b (off + i.toNat * 7 + 1 + k * 2) (x.point k).cs := by
 obtain ⟨_, h0, h1, _⟩ := atSeg_ok h
 obtain ⟨j, rfl⟩ : ∃ j : Nat, i = j := ⟨i.toNat, by omega⟩
 have hj : j < l.length := by omega
 obtain ⟨b, off, cap, cs, he, ⟨rfl, hx⟩, hA⟩ := hv.get j hj
 injection he with h2
 subst h2
 refine ⟨h0, h1, b, off, _, rfl, sgAt_nat hj, hx, hA, fun k hk => ?_⟩
 rw [← point_at _ k hk, Nat.add_assoc]
 exact At.sub _ hA rfl
end Go.Dc
namespace Go.Proofs.YtggcpoleklcmkaaGreatDoor
open Go.Sl Go.Ls Go.Tr Go.Dc
attribute [local irreducible] WC WL WX WK WA WAK Val Ctr RunRes ResIs Rd At sl box pt Exit.then Exit.inBlock bodyPost Code.wp wpList
def ChangeR (q : Atr × Cm × Int) : Value → Mem → Prop := fun r I' => ∃ acs bcs, r = .tuple #[.agg acs.toArray, .agg bcs.toArray, vi q.2.2] ∧ Atr.rep I' q.1 acs ∧ Cm.rep I' q.2.1 bcs
theorem change_ctr (a : Atr) (c : Cm) (t u d q e t' u' d' q' : Value) (I : Mem) (hN : NeedAt I) (ha : a.at_ I t u d q) (hl : a.lim) (hc : c.at_ I e t' u' d' q') (hk6 : 6 ≤ c.kind) (hk12 : c.kind ≤ 12) :
  Ctr Tryz.prog 117 [.agg (a.cs t u d q).toArray, .agg (c.cs e t' u' d' q').toArray] I [] (KeepR [] (ChangeR (change a c))) := by
 have hca := hc.atr
 obtain ⟨a1, c1, a2, c2, a3, c3, a4, c4, rfl, rfl, rfl, rfl⟩ := ha.sl
 obtain ⟨x0, y0, x1, y1, x2, y2, x3, y3, x4, y4, rfl, rfl, rfl, rfl, rfl⟩ := hc.sl
 refine Ctr.intro Tryz.func117 rfl rfl rfl fun E F => ?_
 refine jS (WL.boxA rfl rfl (fun _ => ?_))
 refine jW ?_
 refine WL.boxA rfl rfl (fun _ => ?_)
 refine jW ?_
 refine WL.alloc rfl (fun _ => ?_)
 refine jW ?_
 refine WL.alloc rfl (fun _ => ?_)
 refine jW ?_
 refine jf rfl (jM (jB ?_))
 rename_i g2 g3 g4 g5
 have hbx : ∀ X : List HP, X = X := fun _ => rfl
 refine WC.cutP (fun ρ' I' L' => I' = I ∧ ρ' 2 = ptr g2 ∧ ρ' 3 = ptr g3 ∧ ρ' 4 = ptr g4 ∧ ρ' 5 = ptr g5 ∧ ρ' 6 = vi 0 ∧ L' = [F, box g2 38 (a.cs (.slice a1 a.sty.fill.stops.length c1) (.slice a2 a.sty.pen.stops.length c2) (.slice a3 a.sty.dash.length c3) (.slice a4 a.path.length c4)), box g3 59 (c.cs (.slice x0 c.ents.length y0) (.slice x1 c.atr.sty.fill.stops.length y1) (.slice x2 c.atr.sty.pen.stops.length y2) (.slice x3 c.atr.sty.dash.length y3) (.slice x4 c.atr.path.length y4)), box g4 38 (a.cs (.slice a1 a.sty.fill.stops.length c1) (.slice a2 a.sty.pen.stops.length c2) (.slice a3 a.sty.dash.length c3) (.slice a4 a.path.length c4)), box g5 59 (Cm.cs { Cm.z with kind := c.kind } (.slice none 0 0) (.slice none 0 0) (.slice none 0 0) (.slice none 0 0) (.slice none 0 0))]) ?_ ?_
 ·skip
  refine j8 999 [1, 1] rfl (jT 0 rfl (jt 0 rfl rfl rfl) (jT 1 rfl (jn rfl) (jT 2 rfl (jp 1 rfl rfl rfl) (jT 3 rfl (Val.build (cs := Cm.cs { Cm.z with kind := c.kind } (.slice none 0 0) (.slice none 0 0) (.slice none 0 0) (.slice none 0 0) (.slice none 0 0)) rfl) ?_))))
  refine j5 4 rfl (WL.stA 3 rfl rfl rfl rfl ?_)
  refine jC (j7 [1, 1] rfl (j5 5 rfl (WL.stA 4 rfl rfl rfl rfl ?_)))
  refine jC (j7 [1, 1] rfl (j6 ?_))
  refine WX.thenK (WK.meet ?_)
  exact ⟨rfl, rfl, rfl, rfl, rfl, rfl, rfl⟩
 rintro ρ' I' L' ⟨rfl, r2, r3, r4, r5, r6, rfl⟩
 refine ju5 r6 r5 r4 r3 r2 ?_
 have hN5 : ∀ k : Int, 6 ≤ k → k ≤ 12 → I64 k := fun k h1 h2 => ⟨by show (-9223372036854775808 : Int) ≤ _; omega, by show _ ≤ (9223372036854775807 : Int); omega⟩
 refine WC.cut (fun ρ2 I2 L2 => ∃ acs bcs, I'.le I2 ∧ ρ2 4 = ptr g4 ∧ ρ2 5 = ptr g5 ∧ ρ2 6 = vi (change a c).2.2 ∧ L2 = [F, box g2 38 (a.cs (.slice a1 a.sty.fill.stops.length c1) (.slice a2 a.sty.pen.stops.length c2) (.slice a3 a.sty.dash.length c3) (.slice a4 a.path.length c4)), box g3 59 (c.cs (.slice x0 c.ents.length y0) (.slice x1 c.atr.sty.fill.stops.length y1) (.slice x2 c.atr.sty.pen.stops.length y2) (.slice x3 c.atr.sty.dash.length y3) (.slice x4 c.atr.path.length y4)), box g4 38 acs, box g5 59 bcs] ∧ Atr.rep I2 (change a c).1 acs ∧ Cm.rep I2 (change a c).2.1 bcs) ?_ ?_
 ·have hk : c.kind = 6 ∨ c.kind = 7 ∨ c.kind = 8 ∨ c.kind = 9 ∨ c.kind = 10 ∨ c.kind = 11 ∨ c.kind = 12 := by omega
  rcases hk with hk | hk | hk | hk | hk | hk | hk
  ·rw [show change a c = ({ a with mtx := c.atr.mtx }, { Cm.z with kind := c.kind, atr := { Atr.z with mtx := a.mtx } }, if c.atr.mtx.right then 0 else 10) by rw [change, if_pos hk, hk]]
   refine jS (jm (jn rfl) (jm (jp 2 rfl rfl rfl) (jM (WC.block (jS (jw rfl rfl (jg rfl (jM (jF (jB (j8 999 [1, 1] rfl (jT 0 rfl (jn rfl) (jT 1 rfl (jn rfl) (jT 2 rfl (jt 1 rfl rfl rfl) (jT 3 rfl (jn rfl) (jT 4 rfl (jt 0 rfl rfl rfl) (jT 5 rfl (jn rfl) (j5 6 rfl (WL.stA 3 rfl rfl rfl rfl ?_)))))))))))))))))))
   refine jC (j7 [1, 1] rfl (j5 7 rfl (jm (jn rfl) (jC (j7 [1, 1] rfl (j5 8 rfl (jm (jn rfl) (jC (j7 [1, 1] rfl (j5 9 rfl (WL.stA 4 rfl rfl rfl rfl ?_)))))))))))
   refine jC (j7 [1, 1] rfl (j6 (jK (jm (jn rfl) (jm (jt 3 rfl rfl rfl) ?_)))))
   refine WL.callE rfl rfl (mtxRight_ctr c.atr.mtx _) rfl (fun h1 => ?_) (fun h1 => ?_)
   ·skip
    refine jl rfl (jM (jE (jV (WX.inNormal ?_))))
    refine WX.thenK (WK.meet ?_)
    exact ⟨_, _, Mem.le.refl _, rfl, rfl, by rw [if_pos h1]; rfl, rfl, ⟨_, _, _, _, rfl, hca.mtx, ha.sty, ha.path⟩, ⟨_, _, _, _, _, rfl, hc.kind, i64z, i64z, i64z, i64z, i64z, i64z, LsAt.nil _ _, ⟨ha.mtx, Sty.z_at _, LsAt.nil _ _⟩, Sg.z_ok, Pt.z_ok⟩⟩
   ·skip
    refine jl rfl (jM (jF (jD (jf rfl (jC (WX.inNormal ?_))))))
    refine WX.thenK (WK.meet ?_)
    exact ⟨_, _, Mem.le.refl _, rfl, rfl, by rw [if_neg h1]; rfl, rfl, ⟨_, _, _, _, rfl, hca.mtx, ha.sty, ha.path⟩, ⟨_, _, _, _, _, rfl, hc.kind, i64z, i64z, i64z, i64z, i64z, i64z, LsAt.nil _ _, ⟨ha.mtx, Sty.z_at _, LsAt.nil _ _⟩, Sg.z_ok, Pt.z_ok⟩⟩
  ·rw [show change a c = ({ a with sty := c.atr.sty }, { Cm.z with kind := c.kind, atr := { Atr.z with sty := a.sty } }, c.atr.sty.check) by rw [change, if_neg (by omega), if_pos hk, hk]]
   refine jS (jm (jn rfl) (jm (jp 2 rfl rfl rfl) (jM (WC.block (jCf rfl rfl (jS (jw rfl rfl (jg rfl (jM (jF (jB (j8 999 [1, 1] rfl (jT 0 rfl (jn rfl) (jT 1 rfl (jn rfl) (jT 2 rfl (jt 1 rfl rfl rfl) (jT 3 rfl (jt 0 rfl rfl rfl) (jT 6 rfl (jn rfl) (j5 4 rfl (WL.callP [] rfl rfl (copied_ctr a _ _ _ _ _ ha hl) rfl ?_)))))))))))))))))))
   rintro _ I3 _ hI3 ⟨rfl, t1, u1, d1, q1, rfl, ha1⟩
   refine jW ?_
   obtain ⟨m1, n1, m2, n2, m3, n3, m4, n4, rfl, rfl, rfl, rfl⟩ := ha1.sl
   refine jC (j9 [1, 1] (hI3) rfl (jT 5 rfl (Val.fieldA rfl rfl) ?_))
   refine j5 7 rfl (WL.stA 3 rfl rfl rfl rfl ?_)
   refine jC (j9 [1, 1] (hI3) rfl (j5 8 rfl (jm (jn rfl) (jC (j9 [1, 1] (hI3) rfl (j5 9 rfl (jm (jn rfl) (jC (j9 [1, 1] (hI3) rfl (j5 10 rfl (WL.store 4 rfl rfl rfl ?_)))))))))))
   refine jC (j9 [1, 1] (hI3) rfl (j6 (jA (jD (WL.nSet ?_)))))
   refine jm (jn rfl) (jm (jt 3 rfl rfl rfl) (WL.callS rfl rfl (sty_ctr c.atr.sty _ _ _ _ (hca.sty.mono hI3)) rfl ?_))
   rintro _ rfl
   refine jf rfl (jC (WX.inNormal ?_))
   refine WX.thenK (WK.meet ?_)
   exact ⟨_, _, hI3, rfl, rfl, rfl, rfl, ⟨_, _, _, _, rfl, ha.mtx, hca.sty.mono hI3, ha.path.mono hI3⟩, ⟨_, _, _, _, _, rfl, hc.kind, i64z, i64z, i64z, i64z, i64z, i64z, LsAt.nil _ _, ⟨Mtx.z_ok, ha1.sty, LsAt.nil _ _⟩, Sg.z_ok, Pt.z_ok⟩⟩
  ·rw [show change a c = ({ a with path := c.atr.path }, { Cm.z with kind := c.kind, atr := { Atr.z with path := a.path } }, pathCheck c.atr.path) by rw [change, if_neg (by omega), if_neg (by omega), if_pos hk, hk]]
   refine jS (jm (jn rfl) (jm (jp 2 rfl rfl rfl) (jM (WC.block (jCf rfl rfl (jCf rfl rfl (jS (jw rfl rfl (jg rfl (jM (jF (jB (j8 999 [1, 1] rfl (jT 0 rfl (jn rfl) (jT 1 rfl (jn rfl) (jT 2 rfl (jp 1 rfl rfl rfl) (jT 3 rfl (jt 0 rfl rfl rfl) (jT 6 rfl (jn rfl) (j5 4 rfl (WL.callP [] rfl rfl (copied_ctr a _ _ _ _ _ ha hl) rfl ?_))))))))))))))))))))
   rintro _ I3 _ hI3 ⟨rfl, t1, u1, d1, q1, rfl, ha1⟩
   refine jW ?_
   obtain ⟨m1, n1, m2, n2, m3, n3, m4, n4, rfl, rfl, rfl, rfl⟩ := ha1.sl
   refine jC (j9 [1, 1] (hI3) rfl (jT 5 rfl (Val.fieldS rfl rfl) ?_))
   refine j5 7 rfl (WL.stS 3 rfl rfl rfl rfl ?_)
   refine jC (j9 [1, 1] (hI3) rfl (j5 8 rfl (jm (jn rfl) (jC (j9 [1, 1] (hI3) rfl (j5 9 rfl (jm (jn rfl) (jC (j9 [1, 1] (hI3) rfl (j5 10 rfl (WL.stS 4 rfl rfl rfl rfl ?_)))))))))))
   refine jC (j9 [1, 1] (hI3) rfl (j6 (jA (jD (jm (jn rfl) (jm (jp 3 rfl rfl rfl) (WL.callS rfl rfl (path_ctr c.atr.path _ _ (hN.mono hI3) (hca.path.mono hI3)) rfl ?_)))))))
   rintro _ rfl
   refine jf rfl (jC (WX.inNormal ?_))
   refine WX.thenK (WK.meet ?_)
   exact ⟨_, _, hI3, rfl, rfl, rfl, rfl, ⟨_, _, _, _, rfl, ha.mtx, ha.sty.mono hI3, hca.path.mono hI3⟩, ⟨_, _, _, _, _, rfl, hc.kind, i64z, i64z, i64z, i64z, i64z, i64z, LsAt.nil _ _, ⟨Mtx.z_ok, Sty.z_at _, ha1.path⟩, Sg.z_ok, Pt.z_ok⟩⟩
  ·rw [show change a c = ({ a with path := (pathInsert a.path c.i c.seg).1 }, { Cm.z with kind := 10, i := c.i }, (pathInsert a.path c.i c.seg).2) by rw [change, if_neg (by omega), if_neg (by omega), if_neg (by omega), if_pos hk]]
   refine jS (jm (jn rfl) (jm (jp 2 rfl rfl rfl) (jM (WC.block (jCf rfl rfl (jCf rfl rfl (jCf rfl rfl (jS (jw rfl rfl (jg rfl (jM (jF (jB (j8 999 [2] rfl (jT 0 rfl (jn rfl) (jT 1 rfl (jp 0 rfl rfl rfl) (jT 2 rfl (jn rfl) (j5 3 rfl (WL.stI 4 rfl rfl rfl rfl ?_)))))))))))))))))))
   refine jC (j7 [2] rfl (j5 4 rfl (jm (jn rfl) (jC (j7 [2] rfl (j5 5 rfl (WL.stI 4 rfl rfl rfl rfl ?_)))))))
   refine jC (j7 [2] rfl (j6 (jA (jD (jm (jn rfl) (jm (jp 1 rfl rfl rfl) (jm (jn rfl) (jm (jp 2 rfl rfl rfl) (jm (jn rfl) (jm (jt 2 rfl rfl rfl) (WL.callR [] rfl rfl rfl (pInsert a.path c.i c.seg _ _ hN ha.path hc.seg) rfl ?_)))))))))))
   rintro _ I3 hI3 ⟨w, rfl, hw⟩
   obtain ⟨wa, wc, rfl⟩ := hw.sl
   refine je rfl (jm (Val.extractS rfl rfl) (jm (jq rfl rfl) (jm (jn rfl) (WL.stS 3 rfl rfl rfl rfl ?_))))
   refine jf rfl (jC (WX.inNormal ?_))
   refine WX.thenK (WK.meet ?_)
   exact ⟨_, _, hI3, rfl, rfl, rfl, rfl, ⟨_, _, _, _, rfl, ha.mtx, ha.sty.mono hI3, hw⟩, ⟨_, _, _, _, _, rfl, hN5 10 (by decide) (by decide), i64z, i64z, i64z, i64z, hc.i, i64z, LsAt.nil _ _, Atr.z_at _, Sg.z_ok, Pt.z_ok⟩⟩
  ·rw [show change a c = ({ a with path := (pathDelete a.path c.i).1 }, { Cm.z with kind := 9, i := c.i, seg := if (pathDelete a.path c.i).2 = 0 then sgAt a.path c.i else Sg.z }, (pathDelete a.path c.i).2) by rw [change, if_neg (by omega), if_neg (by omega), if_neg (by omega), if_neg (by omega), if_pos hk]]
   refine jS (jm (jn rfl) (jm (jp 2 rfl rfl rfl) (jM (WC.block (jCf rfl rfl (jCf rfl rfl (jCf rfl rfl (jCf rfl rfl (jS (jw rfl rfl (jg rfl (jM (jF (jB (j8 999 [2] rfl (jT 0 rfl (jn rfl) (jT 1 rfl (jp 0 rfl rfl rfl) (jT 2 rfl (jn rfl) (j5 3 rfl (WL.stI 4 rfl rfl rfl rfl ?_))))))))))))))))))))
   refine jC (j7 [2] rfl (j5 4 rfl (jm (jn rfl) (jC (j7 [2] rfl (j5 5 rfl (WL.stI 4 rfl rfl rfl rfl ?_)))))))
   refine jC (j7 [2] rfl (j6 (jK (jm (jn rfl) (jm (jp 1 rfl rfl rfl) (jm (jn rfl) (jm (jp 2 rfl rfl rfl) (WL.callR [] rfl rfl rfl (pDelete a.path c.i _ _ hN ha.path) rfl ?_))))))))
   rintro _ I3 hI3 ⟨w, rfl, hw⟩
   obtain ⟨wa, wc, rfl⟩ := hw.sl
   by_cases h0 : (pathDelete a.path c.i).2 = 0
   ·rw [if_pos h0]
    obtain ⟨j0, j1, b, off, x, rfl, hsx, hxo, hA, _⟩ := at_elem ha.path (del_at h0)
    rw [hsx]
    have hA := hA.mono hI3
    refine je rfl (jm (Val.extractS rfl rfl) (jm (jq rfl rfl) (jm (jn rfl) (WL.stS 3 rfl rfl rfl rfl ?_))))
    refine jf rfl (jN (ja rfl (jw rfl rfl (jM (jF (jD (jm (jn rfl) (jm (jp 1 rfl rfl rfl) (jm (jn rfl) (jm (jp 2 rfl rfl rfl) (jm (jZ rfl rfl) (jm (Val.loadI rfl (by assumption) rfl) ?_))))))))))))
    refine jm (jn rfl) (WL.stA 4 rfl rfl rfl rfl ?_)
    refine jC (WX.inNormal ?_)
    refine WX.thenK (WK.meet ?_)
    exact ⟨_, _, hI3, rfl, rfl, rfl, rfl, ⟨_, _, _, _, rfl, ha.mtx, ha.sty.mono hI3, hw⟩, ⟨_, _, _, _, _, rfl, hN5 9 (by decide) (by decide), i64z, i64z, i64z, i64z, hc.i, i64z, LsAt.nil _ _, Atr.z_at _, hxo, Pt.z_ok⟩⟩
   ·rw [if_neg h0]
    refine je rfl (jm (Val.extractS rfl rfl) (jm (jq rfl rfl) (jm (jn rfl) (WL.stS 3 rfl rfl rfl rfl ?_))))
    refine jf rfl (jN (ja rfl (jv rfl rfl (jM (jE (jV (WX.inNormal ?_)))))))
    refine WX.thenK (WK.meet ?_)
    exact ⟨_, _, hI3, rfl, rfl, rfl, rfl, ⟨_, _, _, _, rfl, ha.mtx, ha.sty.mono hI3, hw⟩, ⟨_, _, _, _, _, rfl, hN5 9 (by decide) (by decide), i64z, i64z, i64z, i64z, hc.i, i64z, LsAt.nil _ _, Atr.z_at _, Sg.z_ok, Pt.z_ok⟩⟩
  ·rw [show change a c = ({ a with path := (pathPut a.path c.i c.k c.point).1 }, { Cm.z with kind := c.kind, i := c.i, k := c.k, point := if (pathPut a.path c.i c.k c.point).2 = 0 then (sgAt a.path c.i).point c.k.toNat else Pt.z }, (pathPut a.path c.i c.k c.point).2) by rw [change, if_neg (by omega), if_neg (by omega), if_neg (by omega), if_neg (by omega), if_neg (by omega), if_pos hk, hk]]
   refine jS (jm (jn rfl) (jm (jp 2 rfl rfl rfl) (jM (WC.block (jCf rfl rfl (jCf rfl rfl (jCf rfl rfl (jCf rfl rfl (jCf rfl rfl (jS (jw rfl rfl (jg rfl (jM (jF (jB (j8 999 [2] rfl (jT 0 rfl (jn rfl) (jT 1 rfl (jp 0 rfl rfl rfl) (jT 2 rfl (jn rfl) (jT 3 rfl (jp 0 rfl rfl rfl) (jT 4 rfl (jn rfl) (j5 5 rfl (WL.stI 4 rfl rfl rfl rfl ?_)))))))))))))))))))))))
   refine jC (j7 [2] rfl (j5 6 rfl (jm (jn rfl) (jC (j7 [2] rfl (j5 7 rfl (WL.stI 4 rfl rfl rfl rfl ?_)))))))
   refine jC (j7 [2] rfl (j6 (jK (jm (jn rfl) (jm (jp 1 rfl rfl rfl) (jm (jn rfl) (jm (jp 2 rfl rfl rfl) (jm (jn rfl) (jm (jp 2 rfl rfl rfl) (jm (jn rfl) (jm (jt 2 rfl rfl rfl) (WL.callR [] rfl rfl rfl (pPut a.path c.i c.k c.point _ _ hN ha.path hc.point) rfl ?_))))))))))))
   rintro _ I3 hI3 ⟨w, rfl, hw⟩
   obtain ⟨wa, wc, rfl⟩ := hw.sl
   by_cases h0 : (pathPut a.path c.i c.k c.point).2 = 0
   ·rw [if_pos h0]
    obtain ⟨hat, hk0, hk3⟩ := put_at h0
    obtain ⟨j0, j1, b, off, x, rfl, hsx, hxo, _, hP⟩ := at_elem ha.path hat
    rw [hsx]
    have hA := (hP c.k.toNat (by omega)).mono hI3
    refine je rfl (jm (Val.extractS rfl rfl) (jm (jq rfl rfl) (jm (jn rfl) (WL.stS 3 rfl rfl rfl rfl ?_))))
    refine jf rfl (jN (ja rfl (jw rfl rfl (jM (jF (j8 999 [1, 1] rfl (jT 0 rfl (jn rfl) (jT 1 rfl (jp 0 rfl rfl rfl) (jT 2 rfl (jn rfl) (jT 3 rfl (jp 1 rfl rfl rfl) (jT 4 rfl (jn rfl) (jT 5 rfl (jp 1 rfl rfl rfl) (jT 6 rfl (jZ rfl rfl) (jT 7 rfl (jn rfl) (jT 8 rfl (Val.indexAddrA rfl rfl (by omega) (by omega)) ?_)))))))))))))))
    refine jT 9 rfl (Val.loadI rfl hA rfl) ?_
    refine j5 10 rfl (jm (jn rfl) (jC (j7 [1, 1] rfl (j5 11 rfl (WL.stA 4 rfl rfl rfl rfl ?_)))))
    refine jC (j7 [1, 1] rfl (j6 (WX.inNormal ?_)))
    refine WX.thenK (WK.meet ?_)
    exact ⟨_, _, hI3, rfl, rfl, rfl, rfl, ⟨_, _, _, _, rfl, ha.mtx, ha.sty.mono hI3, hw⟩, ⟨_, _, _, _, _, rfl, hc.kind, i64z, i64z, i64z, i64z, hc.i, hc.k, LsAt.nil _ _, Atr.z_at _, Sg.z_ok, point_ok hxo _⟩⟩
   ·rw [if_neg h0]
    refine je rfl (jm (Val.extractS rfl rfl) (jm (jq rfl rfl) (jm (jn rfl) (WL.stS 3 rfl rfl rfl rfl ?_))))
    refine jf rfl (jN (ja rfl (jv rfl rfl (jM (jE (jV (WX.inNormal ?_)))))))
    refine WX.thenK (WK.meet ?_)
    exact ⟨_, _, hI3, rfl, rfl, rfl, rfl, ⟨_, _, _, _, rfl, ha.mtx, ha.sty.mono hI3, hw⟩, ⟨_, _, _, _, _, rfl, hc.kind, i64z, i64z, i64z, i64z, hc.i, hc.k, LsAt.nil _ _, Atr.z_at _, Sg.z_ok, Pt.z_ok⟩⟩
  ·rw [show change a c = ({ a with path := (pathSplit a.path c.i).1 }, { Cm.z with kind := 8, atr := { Atr.z with path := a.path } }, (pathSplit a.path c.i).2) by rw [change, if_neg (by omega), if_neg (by omega), if_neg (by omega), if_neg (by omega), if_neg (by omega), if_neg (by omega)]]
   refine jS (jm (jn rfl) (jm (jp 2 rfl rfl rfl) (jM (WC.block (jCf rfl rfl (jCf rfl rfl (jCf rfl rfl (jCf rfl rfl (jCf rfl rfl (jCf rfl rfl (jS (jw rfl rfl (jg rfl (jM (jF (jS (jm (jt 1 rfl rfl rfl) (WL.callR [] rfl rfl rfl (copied_ctr a _ _ _ _ _ ha hl) rfl ?_))))))))))))))))))
   rintro _ I3 hI3 ⟨t1, u1, d1, q1, rfl, ha1⟩
   obtain ⟨m1, n1, m2, n2, m3, n3, m4, n4, rfl, rfl, rfl, rfl⟩ := ha1.sl
   refine jm (Val.fieldS rfl rfl) ?_
   refine jm (jn rfl) (WL.stI 4 rfl rfl rfl rfl ?_)
   refine jm (jn rfl) (jm (jn rfl) (WL.stS 4 rfl rfl rfl rfl ?_))
   refine jM (jD (jm (jn rfl) (jm (jp 1 rfl rfl rfl) (jm (jn rfl) (jm (jp 2 rfl rfl rfl) (WL.callR [] rfl rfl rfl (pSplit a.path c.i _ _ (hN.mono hI3) (ha.path.mono hI3)) rfl ?_))))))
   rintro _ I4 hI4 ⟨w, rfl, hw⟩
   obtain ⟨wa, wc, rfl⟩ := hw.sl
   refine je rfl (jm (Val.extractS rfl rfl) (jm (jq rfl rfl) (jm (jn rfl) (WL.stS 3 rfl rfl rfl rfl ?_))))
   refine jf rfl (jC (WX.inNormal ?_))
   refine WX.thenK (WK.meet ?_)
   exact ⟨_, _, hI3.trans hI4, rfl, rfl, rfl, rfl, ⟨_, _, _, _, rfl, ha.mtx, ha.sty.mono (hI3.trans hI4), hw⟩, ⟨_, _, _, _, _, rfl, hN5 8 (by decide) (by decide), i64z, i64z, i64z, i64z, i64z, i64z, LsAt.nil _ _, ⟨Mtx.z_ok, Sty.z_at _, ha1.path.mono hI4⟩, Sg.z_ok, Pt.z_ok⟩⟩
 rintro ρ2 I2 L2 ⟨acs, bcs, hI2, r4, r5, r6, rfl, ⟨t1, u1, d1, q1, rfl, hA⟩, ⟨e2, t2, u2, d2, q2, rfl, hB⟩⟩
 refine ju3 r6 r5 r4 ?_
 generalize change a c = ch at *
 obtain ⟨m1, n1, m2, n2, m3, n3, m4, n4, rfl, rfl, rfl, rfl⟩ := hA.sl
 obtain ⟨p0, o0, p1, o1, p2, o2, p3, o3, p4, o4, rfl, rfl, rfl, rfl, rfl⟩ := hB.sl
 refine jB (j8 999 [3, 3] rfl (jT 0 rfl (jt 0 rfl rfl rfl) (jT 1 rfl (jt 1 rfl rfl rfl) (jT 2 rfl (Val.moveI rfl) (j5 3 rfl (WL.stA 3 rfl rfl rfl rfl ?_))))))
 refine jC (j7 [3, 3] rfl (j5 4 rfl (WL.stA 4 rfl rfl rfl rfl ?_)))
 refine jC (j7 [3, 3] rfl (jT 5 rfl (Val.assignI rfl) (j6 (jA (jR ?_)))))
 exact jP [] (jr3 rfl (jcL 3 rfl rfl rfl) (jcL 4 rfl rfl rfl) (jtI rfl)) ⟨rfl, _, _, rfl, ⟨_, _, _, _, rfl, hA⟩, ⟨_, _, _, _, _, rfl, hB⟩⟩
end Go.Proofs.YtggcpoleklcmkaaGreatDoor

namespace Go.Sl
open Go.Ls
theorem Val.lookup2v {Γ : Cx} {ρ : Nat → Value} {I : Mem} {L : List HP} {ty t b n : Nat} {x y : Operand} {i : Int} {z v : Value} {q : Bool} {f : Int → Option Value} (k : Nat) [hk : MapK Γ.P t z] (hv : (f i).getD z = v) (hq : (f i).isSome = q) (hx : ev ρ x = .map (some b)) (hy : ev ρ y = vi i) (hL : L[k]? = some (mp b f n)) :
  Val Γ ρ I L (.lookup t x y true) ty (.tuple #[v, .bool q]) := by
 subst hv; subst hq
 exact Val.lookup2 k hx hy hL
end Go.Sl
namespace Go.Dc
open Go.Sl Go.Ls Go.Tr
theorem AtRep.some {I : Mem} {at_ : Int → Option Atr} {f : Int → Option Value} (h : AtRep I at_ f) (i : Int) : (f i).isSome = (at_ i).isSome := by
 rcases h i with ⟨h1, h2⟩ | ⟨a, v, h1, h2, _⟩ <;> rw [h1, h2] <;> rfl
theorem Cm.at_.withId {I : Mem} {c : Cm} {e t u d q : Value} (h : c.at_ I e t u d q) {i : Int} (hi : I64 i) : Cm.at_ I { c with id := i } e t u d q := ⟨h.kind, hi, h.parent, h.index, h.count, h.i, h.k, h.ents, h.atr, h.seg, h.point⟩
theorem dom_up {at_ : Int → Option Atr} {P : Int → Prop} (h : ∀ i, (at_ i).isSome = true ↔ P i) {j : Int} {a b : Atr} (hj : at_ j = some a) : ∀ i, (upAt at_ j b i).isSome = true ↔ P i := fun i => by
 rw [← h i, upAt]
 split
 ·rename_i e
  rw [e, hj]; simp
 ·exact Iff.rfl
theorem checked_len {l : List Sg} (h : (checked l).2 = 0) : (checked l).1.length ≤ 4096 := by
 rw [checked] at h ⊢
 split at h
 ·rename_i h1; exact absurd h h1
 ·rename_i h1
  rw [if_neg h1]
  exact pathCheck_lim (Decidable.of_not_not h1)
theorem insert_len {l : List Sg} {i : Int} {s : Sg} (h : (pathInsert l i s).2 = 0) : (pathInsert l i s).1.length ≤ 4096 := by
 rw [pathInsert] at h ⊢
 split at h
 ·rename_i h1; exact absurd h h1
 ·rename_i h1
  rw [if_neg h1]
  split at h
  ·exact absurd h (by show ¬ (30 : Int) = 0; decide)
  ·rename_i h2
   rw [if_neg h2]
   exact checked_len h
theorem delete_len {l : List Sg} {i : Int} (h : (pathDelete l i).2 = 0) : (pathDelete l i).1.length ≤ 4096 := by
 rw [pathDelete] at h ⊢
 split at h
 ·rename_i h1; exact absurd h h1
 ·rename_i h1
  rw [if_neg h1]
  exact checked_len h
theorem put_len {l : List Sg} {i k : Int} {p : Pt} (h : (pathPut l i k p).2 = 0) : (pathPut l i k p).1.length ≤ 4096 := by
 rw [pathPut] at h ⊢
 split at h
 ·rename_i h1; exact absurd h h1
 ·rename_i h1
  rw [if_neg h1]
  split at h
  ·exact absurd h (by show ¬ (30 : Int) = 0; decide)
  ·rename_i h2
   rw [if_neg h2]
   exact checked_len h
theorem split_len {l : List Sg} {i : Int} (h : (pathSplit l i).2 = 0) : (pathSplit l i).1.length ≤ 4096 := by
 rw [pathSplit] at h ⊢
 split at h
 ·rename_i h1; exact absurd h h1
 ·rename_i h1
  obtain ⟨_, h0, h2, h3⟩ := atSeg_ok (Decidable.of_not_not h1)
  rw [if_neg h1]
  split at h
  ·exact absurd h (by show ¬ (33 : Int) = 0; decide)
  ·rename_i h4
   rw [if_neg h4]
   split at h
   ·exact absurd h (by show ¬ (36 : Int) = 0; decide)
   ·rename_i h5
    rw [if_neg h5]
    show (l.take i.toNat ++ _ :: _ :: l.drop (i.toNat + 1)).length ≤ 4096
    simp only [List.length_append, List.length_cons, List.length_take, List.length_drop]
    omega
theorem change_lim {a : Atr} {c : Cm} (ha : a.lim) (h : (change a c).2.2 = 0) : (change a c).1.lim := by
 obtain ⟨h1, h2, h3, h4⟩ := ha
 rw [change] at h ⊢
 split at h
 ·rename_i k; rw [if_pos k]; exact ⟨h1, h2, h3, h4⟩
 rename_i k6
 rw [if_neg k6]
 split at h
 ·rename_i k; rw [if_pos k]
  obtain ⟨q1, q2, q3⟩ := Sty.check_lim (s := c.atr.sty) h
  exact ⟨h1, by show c.atr.sty.fill.stops.length ≤ _; omega, by show c.atr.sty.pen.stops.length ≤ _; omega, by show c.atr.sty.dash.length ≤ _; omega⟩
 rename_i k7
 rw [if_neg k7]
 split at h
 ·rename_i k; rw [if_pos k]
  have := pathCheck_lim (l := c.atr.path) h
  exact ⟨by show c.atr.path.length ≤ _; omega, h2, h3, h4⟩
 rename_i k8
 rw [if_neg k8]
 split at h
 ·rename_i k; rw [if_pos k]
  have := insert_len h
  exact ⟨by show (pathInsert a.path c.i c.seg).1.length ≤ _; omega, h2, h3, h4⟩
 rename_i k9
 rw [if_neg k9]
 split at h
 ·rename_i k; rw [if_pos k]
  have := delete_len h
  exact ⟨by show (pathDelete a.path c.i).1.length ≤ _; omega, h2, h3, h4⟩
 rename_i k10
 rw [if_neg k10]
 split at h
 ·rename_i k; rw [if_pos k]
  have := put_len h
  exact ⟨by show (pathPut a.path c.i c.k c.point).1.length ≤ _; omega, h2, h3, h4⟩
 rename_i k11
 rw [if_neg k11]
 have := split_len h
 exact ⟨by show (pathSplit a.path c.i).1.length ≤ _; omega, h2, h3, h4⟩
end Go.Dc
namespace Go.Proofs.YtggcpoleklcmkaaGreatDoor
open Go.Sl Go.Ls Go.Tr Go.Dc
attribute [local irreducible] WC WL WX WK WA WAK Val Ctr RunRes ResIs Rd At sl box pt Exit.then Exit.inBlock bodyPost Code.wp wpList
theorem dSet (D : Dm) (d : Dr) (c : Cm) (e t u dd q : Value) (I : Mem) (hN : NeedAt I) (hD : DAbs I D d) (hc : c.at_ I e t u dd q) (hk6 : 6 ≤ c.kind) (hk12 : c.kind ≤ 12) (hs0 : 0 ≤ d.segs) (hs1 : d.segs ≤ 1048576) :
  Ctr Tryz.prog 71 [ptr D.b, .agg (c.cs e t u dd q).toArray] I D.hp (ApplyN (d.set c) D I) := by
 have hc0 := hc
 have hsg := hD.segs
 obtain ⟨x0, y0, x1, y1, x2, y2, x3, y3, x4, y4, rfl, rfl, rfl, rfl, rfl⟩ := hc.sl
 obtain ⟨ta, ua, da, qa, hv, haa⟩ := hD.rep.get c.id
 have hsm := hD.rep.some c.id
 have hla : ((d.at_ c.id).getD Atr.z).lim := by
  cases h : d.at_ c.id with
  | none => exact ⟨by decide, by decide, by decide, by decide⟩
  | some a => exact hD.lim _ _ h
 generalize hga : (d.at_ c.id).getD Atr.z = a at hv haa hla
 generalize hbb : (d.at_ c.id).isSome = bb at hsm
 have haa0 := haa
 obtain ⟨a1, c1, a2, c2, a3, c3, a4, c4, rfl, rfl, rfl, rfl⟩ := haa.sl
 refine Ctr.intro Tryz.func71 rfl rfl rfl fun E F => ?_
 refine jS (WL.boxA rfl rfl (fun _ => ?_))
 refine jW ?_
 refine WL.alloc rfl (fun _ => ?_)
 refine jW ?_
 refine jf rfl (jM (jB ?_))
 rename_i g3 g4
 refine j8 999 [1, 1, 6] rfl (jT 0 rfl (Val.moveP rfl) (jT 1 rfl (jr rfl) (jT 2 rfl (jn rfl) (jT 3 rfl (jp 0 rfl rfl rfl) (jT 4 rfl (jn rfl) (jT 5 rfl (jp 2 rfl rfl rfl) (jT 6 rfl (Val.lookup2v 1 hv hsm rfl rfl rfl) ?_)))))))
 refine jT 7 rfl (Val.moveT rfl) (jT 8 rfl (Val.extractA rfl rfl) (jT 9 rfl (Val.extractB rfl rfl) (j5 10 rfl (WL.alloc rfl (fun _ => ?_)))))
 rename_i g6
 refine jW ?_
 refine jC (j7 [1, 1, 6] rfl (j5 11 rfl (WL.stA 10 rfl rfl rfl rfl ?_)))
 refine jC (j7 [1, 1, 6] rfl (jT 12 rfl (Val.assignB rfl) (j6 ?_)))
 by_cases h0 : c.id = 0
 ·rw [show d.set c = (d, Cm.z, 30) by rw [Dr.set, if_pos h0]]
  refine jA (jB (WC.block (jS (jm (jn rfl) (jm (jp 8 rfl rfl rfl) (jw rfl rfl (jg rfl (jM (jF (jS (jm (Val.build0) ?_)))))))))))
  refine WL.stA 9 rfl rfl rfl rfl ?_
  refine jf rfl (jM (jR (WX.inRet (jU ?_))))
  exact jP [0, 0, 0, 0, 0, 0, 0] (jr2 rfl (jcL 9 rfl rfl rfl) (jtI rfl)) ⟨D, _, rfl, Cm.z_rep _, rfl, rfl, hD, UpdF.refl _ _ _⟩
 cases bb with
 | false =>
  have hn : d.at_ c.id = none := by
   cases h : d.at_ c.id with
   | none => rfl
   | some a => rw [h] at hbb; cases hbb
  rw [show d.set c = (d, Cm.z, 31) by rw [Dr.set, if_neg h0, hn]]
  refine jA (jB (WC.block (jS (jm (jn rfl) (jm (jp 8 rfl rfl rfl) (jv rfl rfl (jg rfl (jM (jE (jS (jb rfl (jl rfl (jg rfl (jM (jF (jS (jm (Val.build0) ?_)))))))))))))))))
  refine WL.stA 9 rfl rfl rfl rfl ?_
  refine jf rfl (jM (jR (WX.inRet (jU ?_))))
  exact jP [0, 0, 0, 0, 0, 0, 0] (jr2 rfl (jcL 9 rfl rfl rfl) (jtI rfl)) ⟨D, _, rfl, Cm.z_rep _, rfl, rfl, hD, UpdF.refl _ _ _⟩
 | true =>
  have hn : d.at_ c.id = some a := by
   cases h : d.at_ c.id with
   | none => rw [h] at hbb; cases hbb
   | some a' => rw [h] at hga; rw [← hga]; rfl
  have hset : d.set c = if 8 ≤ c.kind ∧ ((Nd.find c.id d.top).map Nd.grp).getD false = true then (d, Cm.z, 33)
   else if (change a c).2.2 ≠ 0 then (d, Cm.z, (change a c).2.2)
   else if mostSegs < d.segs + (change a c).1.path.length - a.path.length then (d, Cm.z, 36)
   else (⟨d.top, upAt d.at_ c.id (change a c).1, d.segs + (change a c).1.path.length - a.path.length⟩, { (change a c).2.1 with id := c.id }, 0) := by
   rw [Dr.set, if_neg h0, hn]
  rw [hset]
  clear hset
  refine jA (jB (WC.block (jS (jm (jn rfl) (jm (jp 8 rfl rfl rfl) (jv rfl rfl (jg rfl (jM (jE (jS (jb rfl (jl rfl (jg rfl (jM (jE (jB ?_))))))))))))))))
  refine WC.cutP (fun ρ' I' L' => I' = I ∧ ρ' 0 = ptr D.b ∧ ρ' 3 = ptr g3 ∧ ρ' 4 = ptr g4 ∧ ρ' 6 = ptr g6 ∧ ρ' 31 = .bool (decide (8 ≤ c.kind) && ((Nd.find c.id d.top).map Nd.grp).getD false) ∧ L' = F :: (D.hp ++ [box g3 59 (c.cs (.slice x0 c.ents.length y0) (.slice x1 c.atr.sty.fill.stops.length y1) (.slice x2 c.atr.sty.pen.stops.length y2) (.slice x3 c.atr.sty.dash.length y3) (.slice x4 c.atr.path.length y4)), box g4 59 (Cm.cs Cm.z (.slice none 0 0) (.slice none 0 0) (.slice none 0 0) (.slice none 0 0) (.slice none 0 0)), box g6 38 (a.cs (.slice a1 a.sty.fill.stops.length c1) (.slice a2 a.sty.pen.stops.length c2) (.slice a3 a.sty.dash.length c3) (.slice a4 a.path.length c4))])) ?_ ?_
  ·by_cases h8 : 8 ≤ c.kind
   ·rw [decide_eq_true h8, Bool.true_and]
    refine j8 999 [1, 7] rfl (jT 0 rfl (jn rfl) (jT 1 rfl (jp 1 rfl rfl rfl) (jT 2 rfl (Val.geq rfl rfl (decide_eq_true (by omega))) ?_)))
    refine jT 3 rfl (Val.moveB rfl) (jT 4 rfl (Val.moveP rfl) (jT 5 rfl (jr rfl) (jT 6 rfl (jn rfl) (jT 7 rfl (jp 0 rfl rfl rfl) (jT 8 rfl (jn rfl) (jT 9 rfl (jp 1 rfl rfl rfl) (j5 10 rfl (jG (WL.callK [3, 3, 3, 3, 3] rfl rfl rfl (aIsGroup D.A d.top hD.abs c.id _) rfl ?_)))))))))
    rintro _ rfl
    refine jC (j7 [1, 7] rfl (jT 11 rfl (Val.pick rfl) (jT 12 rfl (Val.assignB rfl) (j6 ?_))))
    refine WX.thenK (WK.meet ?_)
    exact ⟨rfl, rfl, rfl, rfl, rfl, rfl, rfl⟩
   ·rw [decide_eq_false h8, Bool.false_and]
    refine j8 999 [1, 7] rfl (jT 0 rfl (jn rfl) (jT 1 rfl (jp 1 rfl rfl rfl) (jT 2 rfl (Val.geq rfl rfl (decide_eq_false (by omega))) ?_)))
    refine jT 3 rfl (Val.moveB rfl) (jI 4 rfl (jI 5 rfl (jI 6 rfl (jI 7 rfl (jI 8 rfl (jI 9 rfl (jI 10 rfl (jT 11 rfl (Val.pick rfl) (jT 12 rfl (Val.assignB rfl) (j6 ?_))))))))))
    refine WX.thenK (WK.meet ?_)
    exact ⟨rfl, rfl, rfl, rfl, rfl, rfl, rfl⟩
  rintro ρ' I' L' ⟨rfl, r0, r3, r4, r6, r31, rfl⟩
  refine ju5 r31 r6 r4 r3 r0 ?_
  change WC _ _ _ _ [F, docBox D.b D.A.b D.mb D.segs, mp D.mb D.f D.cnt, _, _, _, _, _, _, _, _] _
  by_cases hgr : 8 ≤ c.kind ∧ ((Nd.find c.id d.top).map Nd.grp).getD false = true
  ·rw [if_pos hgr, hgr.2, decide_eq_true hgr.1, Bool.and_true]
   refine jF (jS (jm (Val.build0) ?_))
   refine WL.stA 9 rfl rfl rfl rfl ?_
   refine jf rfl (jM (jR (WX.inRet (jU ?_))))
   exact jP [0, 0, 0, 0, 0, 0, 0] (jr2 rfl (jcL 9 rfl rfl rfl) (jtI rfl)) ⟨D, _, rfl, Cm.z_rep _, rfl, rfl, hD, UpdF.refl _ _ _⟩
  rw [if_neg hgr, show (decide (8 ≤ c.kind) && ((Nd.find c.id d.top).map Nd.grp).getD false) = false by
   rw [Bool.and_eq_false_iff]
   by_cases h8 : 8 ≤ c.kind
   ·exact .inr (by cases h : ((Nd.find c.id d.top).map Nd.grp).getD false with
     | false => rfl
     | true => exact absurd ⟨h8, h⟩ hgr)
   ·exact .inl (decide_eq_false h8)]
  refine jE (jV (WX.inNormal (jK (jm (jt 10 rfl rfl rfl) (jm (jt 8 rfl rfl rfl) (WL.callR [] rfl rfl rfl (change_ctr a c _ _ _ _ _ _ _ _ _ _ hN haa hla hc hk6 hk12) rfl ?_))))))
  rintro _ I3 hI3 ⟨_, _, rfl, ⟨t1, u1, d1, q1, rfl, hA⟩, ⟨e2, t2, u2, d2, q2, rfl, hB⟩⟩
  have hlim := change_lim (c := c) hla
  generalize change a c = ch at *
  have hA0 := hA
  have hB0 := hB
  obtain ⟨m1, n1, m2, n2, m3, n3, m4, n4, rfl, rfl, rfl, rfl⟩ := hA.sl
  obtain ⟨p0, o0, p1, o1, p2, o2, p3, o3, p4, o4, rfl, rfl, rfl, rfl, rfl⟩ := hB.sl
  by_cases he : ch.2.2 = 0
  case neg =>
   rw [if_pos he]
   refine je rfl (jm (Val.extractA rfl rfl) (jm (Val.extractA rfl rfl) (jm (jq rfl rfl) (WL.alloc rfl (fun _ => ?_)))))
   refine jW ?_
   refine WL.alloc rfl (fun _ => ?_)
   refine jW ?_
   refine WL.stA 11 rfl rfl rfl rfl ?_
   refine WL.stA 12 rfl rfl rfl rfl ?_
   refine jf rfl (jM (jB (jS (ja rfl (jJ rfl rfl (jM (jF (jS (jm (Val.build0) ?_)))))))))
   refine ja rfl (WL.stA 9 rfl rfl rfl rfl ?_)
   refine jf rfl (jM (jR (jU ?_)))
   exact jP [0, 0, 0, 0, 0, 0, 0] (jr2 rfl (jcL 9 rfl rfl rfl) (jtI rfl)) ⟨D, _, rfl, Cm.z_rep _, rfl, rfl, hD.mono hI3, UpdF.refl _ _ _⟩
  rw [if_neg (fun e => e he)]
  obtain ⟨l1, l2, l3, l4⟩ := hla
  obtain ⟨b1, b2, b3, b4⟩ := hlim he
  refine je rfl (jm (Val.extractA rfl rfl) (jm (Val.extractA rfl rfl) (jm (jq rfl rfl) (WL.alloc rfl (fun _ => ?_)))))
  refine jW ?_
  refine WL.alloc rfl (fun _ => ?_)
  refine jW ?_
  refine WL.stA 11 rfl rfl rfl rfl ?_
  refine WL.stA 12 rfl rfl rfl rfl ?_
  refine jf rfl (jM (jB (jS (ja rfl (jz rfl rfl (jM (jE (jV (jA (jB ?_))))))))))
  rename_i g8 g9
  refine j8 999 [1, 9, 9] rfl (jT 0 rfl (Val.moveP rfl) (jT 1 rfl (jr rfl) (jT 2 rfl (jn rfl) (jT 3 rfl (jp 0 rfl rfl rfl) (jT 4 rfl (jn rfl) (jT 5 rfl (jp 2 rfl rfl rfl) (jT 6 rfl (jo rfl) (jT 7 rfl (Val.add rfl rfl (wrap_i64 (by omega) (by omega))) ?_))))))))
  refine jT 8 rfl (jn rfl) (jT 9 rfl (jp 1 rfl rfl rfl) (jT 10 rfl (jo rfl) (jT 11 rfl (Val.sub rfl rfl (wrap_i64 (by omega) (by omega))) ?_)))
  refine jT 12 rfl (Val.assignI rfl) (j6 ?_)
  rw [hsg]
  by_cases hm : mostSegs < d.segs + ch.1.path.length - a.path.length
  ·rw [if_pos hm]
   have hm2 : (1048576 : Int) < d.segs + ch.1.path.length - a.path.length := hm
   refine jA (jB (jS (ja rfl (jO rfl rfl (jM (jF (jS (jm (Val.build0) ?_))))))))
   refine WL.stA 9 rfl rfl rfl rfl ?_
   refine jf rfl (jM (jR (jU ?_)))
   exact jP [0, 0, 0, 0, 0, 0, 0] (jr2 rfl (jcL 9 rfl rfl rfl) (jtI rfl)) ⟨{ D with segs := d.segs }, _, rfl, Cm.z_rep _, rfl, rfl, ⟨hD.abs, hD.rep.mono hI3, rfl, hD.dom, hD.lim⟩, UpdF.refl _ _ _⟩
  rw [if_neg hm]
  have hm2 : ¬ (1048576 : Int) < d.segs + ch.1.path.length - a.path.length := hm
  obtain ⟨w, hfv⟩ : ∃ w, D.f c.id = some w := Option.isSome_iff_exists.1 hsm
  refine jA (jB (jS (ja rfl (jL rfl rfl (jM (jE (jV (jK (jm (jn rfl) (jm (jp 8 rfl rfl rfl) (jm (jn rfl) (WL.stI 12 rfl rfl rfl rfl ?_))))))))))))
  refine jM (jB (j8 15 [1, 7, 9] rfl (jT 0 rfl (Val.moveP rfl) (jT 1 rfl (jr rfl) (jT 2 rfl (jn rfl) (jT 3 rfl (jp 0 rfl rfl rfl) (jT 4 rfl (jn rfl) (jT 5 rfl (jp 1 rfl rfl rfl) (jT 6 rfl (Val.moveP rfl) (jT 7 rfl (jt 2 rfl rfl rfl) (jT 9 rfl (Val.moveI rfl) (j5 8 rfl (WL.callR [] rfl rfl rfl (copiedN_ctr ch.1 _ _ _ _ _ hA0 (hlim he)) rfl ?_)))))))))))))
  rintro _ I4 hI4 ⟨t5, u5, d5, q5, rfl, h5, hnw⟩
  refine jC (j9 [1, 7, 9] (hI4) rfl (j5 10 rfl (WL.mapEntry 2 rfl rfl rfl hfv rfl fun aa cc jj ee z1 z2 z3 z4 => ?_)))
  refine WL.nSet ?_
  refine jC (j9 [1, 7, 9] (hI4) rfl (jT 11 rfl (jq rfl rfl) (j5 12 rfl (WL.entryStore 2 rfl rfl rfl z1 z2 z3 z4 ?_))))
  refine WL.nSet ?_
  refine jC (j9 [1, 7, 9] (hI4) rfl (j5 13 rfl (jm (jr rfl) (jC (j9 [1, 7, 9] (hI4) rfl (j5 14 rfl (jm (jn rfl) (jC (j9 [1, 7, 9] (hI4) rfl (j5 15 rfl (WL.stI 1 rfl rfl rfl rfl ?_)))))))))))
  refine jC (WK.anyLast (WA.done (by kernel_rfl) (jK (jm (jt 12 rfl rfl rfl) (WL.stA 9 rfl rfl rfl rfl ?_)))))
  refine jf rfl (jM (jR ?_))
  have hJ := hI3.trans hI4
  exact jP [0, 0, 0, 0, 0, 0, 0] (jr2 rfl (jcL 9 rfl rfl rfl) (jtI rfl)) ⟨{ D with f := Sl.put D.f c.id _, segs := _ }, _, rfl, ⟨_, _, _, _, _, rfl, (hB0.mono hI4).withId hc.id⟩, rfl, rfl, ⟨hD.abs, (hD.rep.mono hJ).up ⟨_, _, _, _, rfl, h5⟩ _, rfl, dom_up hD.dom hn, lim_up hD.lim (hlim he) _⟩, (UpdF.refl _ _ _).put (AtrN.less ⟨_, _, _, _, rfl, h5, hnw⟩ hI3) _⟩
end Go.Proofs.YtggcpoleklcmkaaGreatDoor

namespace Go.Tr
open Go.Sl Go.Ls
namespace Nd
theorem kids_lt (n : Nd) : Nd.sizes n.kids < n.size := by
 cases n with
 | mk i g ks => rw [Nd.size]; show Nd.sizes ks < 1 + Nd.sizes ks; omega
theorem move_rem {top : Nd} {i p ix : Int} (h : (Nd.move top i p ix).2 = 0) : (Nd.remove top i).2.2.2.2 = 0 := by
 rw [Nd.move] at h
 split at h
 ·rename_i h0; exact absurd h h0
 ·rename_i h0; exact Decidable.of_not_not h0
theorem unwrap_rem {top : Nd} {i : Int} (h : (Nd.unwrap top i).2.2.2.2 = 0) : (Nd.remove top i).2.2.2.2 = 0 := by
 rw [Nd.unwrap] at h
 split at h
 ·rename_i h0; exact absurd h h0
 ·rename_i h0; exact Decidable.of_not_not h0
end Nd
section
variable {A : Ar} {top : Nd}
open Nd
theorem i64nat {k : Nat} (h : k ≤ 1000000) : I64 (k : Int) := ⟨by show (-9223372036854775808 : Int) ≤ _; omega, by show _ ≤ (9223372036854775807 : Int); omega⟩
theorem Abs.rem_small (hA : Abs A top) {i : Int} (h : (Nd.remove top i).2.2.2.2 = 0) : I64 (Nd.remove top i).2.2.1 ∧ I64 (Nd.remove top i).2.2.2.1 ∧ (Nd.remove top i).2.1.size ≤ 100000 ∧ Nd.whr i top = some ((Nd.remove top i).2.2.1, (Nd.remove top i).2.2.2.1) := by
 have hs := hA.size_le
 rcases hA.rem i with ⟨h0, _⟩ | ⟨p, k, hk, hi, hid, hfi, hw, hf, e, o1, o2, o3⟩
 ·exact absurd h h0
 ·rw [e]
  have h1 := Nd.find_size i _ _ hfi
  have h2 := Nd.find_size p.id _ _ hf
  have h3 := Nd.len_le_sizes p.kids
  have h4 := Nd.kids_lt p
  refine ⟨hA.i64 _ ?_, i64nat (by omega), by show (p.kids[k]).size ≤ _; omega, hw⟩
  exact (find_some p.id top).1 (by rw [hf]; rfl)
theorem Abs.unwrap_small (hA : Abs A top) {i : Int} (h : (Nd.unwrap top i).2.2.2.2 = 0) : I64 (Nd.unwrap top i).2.1 ∧ I64 (Nd.unwrap top i).2.2.1 ∧ I64 (Nd.unwrap top i).2.2.2.1 := by
 obtain ⟨h1, h2, h3, _⟩ := hA.rem_small (unwrap_rem h)
 rw [Nd.unwrap] at h ⊢
 split at h
 ·rename_i h0; exact absurd h h0
 rename_i h0
 rw [if_neg h0]
 split at h
 ·exact absurd h (by show ¬ (33 : Int) = 0; decide)
 rename_i hg
 rw [if_neg hg]
 have h5 := Nd.len_le_sizes (Nd.remove top i).2.1.kids
 have h6 := Nd.kids_lt (Nd.remove top i).2.1
 exact ⟨h1, h2, i64nat (by omega)⟩
end
end Go.Tr
namespace Go.Dc
open Go.Sl Go.Ls Go.Tr
theorem dom_move {at_ : Int → Option Atr} {o o' : List Int} (hdom : ∀ i, (at_ i).isSome = true ↔ i ≠ 0 ∧ i ∈ o) (hc : ∀ x, o'.count x = o.count x) : ∀ i, (at_ i).isSome = true ↔ i ≠ 0 ∧ i ∈ o' := by
 intro i
 rw [hdom i, mem_count, mem_count, hc i]
theorem dom_unwrap {at_ : Int → Option Atr} {o o' : List Int} {j : Int} (hdom : ∀ i, (at_ i).isSome = true ↔ i ≠ 0 ∧ i ∈ o) (hn : o.Nodup) (hc : ∀ x, o'.count x + (if j = x then 1 else 0) = o.count x) : ∀ i, (downAt at_ j i).isSome = true ↔ i ≠ 0 ∧ i ∈ o' := by
 intro i
 have h1 := hc i
 have h2 := nodup_count hn i
 rw [downAt, mem_count]
 by_cases h : i = j
 ·subst h
  rw [if_pos rfl] at h1 ⊢
  constructor
  ·intro h; cases h
  ·rintro ⟨_, h3⟩; omega
 ·rw [if_neg h, hdom i, mem_count]
  rw [if_neg (fun e => h e.symm)] at h1
  rw [← h1, Nat.add_zero]
theorem dropAll_some : ∀ (l : List Ent) (f : Int → Option Atr) (i : Int), (dropAll f l i).isSome = true ↔ (f i).isSome = true ∧ i ∉ l.map Ent.id
 | [], f, i => by simp [dropAll]
 | x :: l, f, i => by
  rw [dropAll, dropAll_some l, downAt, List.map_cons, List.mem_cons]
  by_cases h : i = x.id
  ·simp [h]
  ·simp [h]
theorem dropAll_of : ∀ (l : List Ent) (f : Int → Option Atr) (i : Int) (a : Atr), dropAll f l i = some a → f i = some a
 | [], f, i, a, h => h
 | x :: l, f, i, a, h => by
  rw [dropAll] at h
  have h := dropAll_of l _ i a h
  rw [downAt] at h
  split at h
  ·cases h
  ·exact h
theorem dropAll_snoc : ∀ (l : List Ent) (f : Int → Option Atr) (x : Ent), dropAll f (l ++ [x]) = downAt (dropAll f l) x.id
 | [], f, x => rfl
 | y :: l, f, x => by rw [List.cons_append, dropAll, dropAll, dropAll_snoc l]
theorem dom_remove {at_ : Int → Option Atr} {o o' m : List Int} {l : List Ent} (hdom : ∀ i, (at_ i).isSome = true ↔ i ≠ 0 ∧ i ∈ o) (hn : o.Nodup) (hm : l.map Ent.id = m) (hc : ∀ x, o'.count x + m.count x = o.count x) : ∀ i, (dropAll at_ l i).isSome = true ↔ i ≠ 0 ∧ i ∈ o' := by
 intro i
 have h1 := hc i
 have h2 := nodup_count hn i
 rw [dropAll_some, hm, hdom i]
 simp only [mem_count]
 omega
theorem ents_ids (at_ : Int → Atr) (n : Nd) : (ents at_ n).map Ent.id = n.order := by
 refine Nd.rec (motive_1 := fun n => (ents at_ n).map Ent.id = n.order) (motive_2 := fun l => (entss at_ l).map Ent.id = Nd.orders l) ?_ ?_ ?_ n
 ·intro i g ks h
  rw [ents, Nd.order, List.map_cons, h]
 ·rw [entss, Nd.orders]; rfl
 ·intro k ks h1 h2
  rw [entss, Nd.orders, List.map_append, h1, h2]
theorem ents_atr {at_ : Int → Atr} {n : Nd} {x : Ent} : x ∈ ents at_ n → x.atr = at_ x.id := by
 refine Nd.rec (motive_1 := fun n => x ∈ ents at_ n → x.atr = at_ x.id) (motive_2 := fun l => x ∈ entss at_ l → x.atr = at_ x.id) ?_ ?_ ?_ n
 ·intro i g ks h hx
  rw [ents] at hx
  rcases List.mem_cons.1 hx with rfl | hx
  ·rfl
  ·exact h hx
 ·intro hx; rw [entss] at hx; cases hx
 ·intro k ks h1 h2 hx
  rw [entss] at hx
  rcases List.mem_append.1 hx with hx | hx
  ·exact h1 hx
  ·exact h2 hx
theorem segsOf_nonneg : ∀ l : List Ent, 0 ≤ segsOf l
 | [] => Int.le_refl _
 | x :: l => by
  have := segsOf_nonneg l
  show 0 ≤ (x.atr.path.length : Int) + segsOf l
  omega
theorem segsOf_le {m : Nat} : ∀ {l : List Ent}, (∀ x ∈ l, x.atr.path.length ≤ m) → segsOf l ≤ l.length * m
 | [], _ => by show (0 : Int) ≤ _; simp
 | x :: l, h => by
  have h1 := segsOf_le (l := l) fun y hy => h y (.tail _ hy)
  have h2 := h x (.head _)
  show (x.atr.path.length : Int) + segsOf l ≤ _
  rw [List.length_cons, Int.natCast_add, Int.add_mul]
  omega
theorem AtRep.down {I : Mem} {at_ : Int → Option Atr} {f : Int → Option Value} (h : AtRep I at_ f) (j : Int) : AtRep I (downAt at_ j) (Sl.del f j) := fun i => by
 rw [downAt, Sl.del]
 by_cases hi : i = j
 ·rw [if_pos hi, if_pos hi]
  exact .inl ⟨rfl, rfl⟩
 ·rw [if_neg hi, if_neg hi]
  exact h i
theorem lim_down {at_ : Int → Option Atr} (h : ∀ i a, at_ i = some a → a.lim) (j : Int) : ∀ i a, downAt at_ j i = some a → a.lim := fun i a ha => by
 rw [downAt] at ha
 split at ha
 ·cases ha
 ·exact h i a ha
end Go.Dc

namespace Go.Proofs.YtggcpoleklcmkaaGreatDoor
open Go.Sl Go.Ls Go.Tr Go.Dc
attribute [local irreducible] WC WL WX WK WA WAK Val Ctr RunRes ResIs Rd At sl box pt Exit.then Exit.inBlock bodyPost Code.wp wpList
theorem whr_v (r : Option (Int × Int)) : ∃ b, whrV r = .tuple #[vi (r.getD (0, 0)).1, vi (r.getD (0, 0)).2, .bool b] := by
 cases r with
 | none => exact ⟨false, rfl⟩
 | some q => exact ⟨true, rfl⟩
theorem dMove (D : Dm) (d : Dr) (c : Cm) (e t u dd q : Value) (I : Mem) (hD : DAbs I D d) (hc : c.at_ I e t u dd q) :
  Ctr Tryz.prog 68 [ptr D.b, .agg (c.cs e t u dd q).toArray] I D.hp (ApplyN (d.move c) D I) := by
 obtain ⟨x0, y0, x1, y1, x2, y2, x3, y3, x4, y4, rfl, rfl, rfl, rfl, rfl⟩ := hc.sl
 obtain ⟨wb, hw⟩ := whr_v (Nd.whr c.id d.top)
 have hmv : d.move c = if (Nd.move d.top c.id c.parent c.index).2 ≠ 0 then (d, Cm.z, (Nd.move d.top c.id c.parent c.index).2) else ({ d with top := (Nd.move d.top c.id c.parent c.index).1 }, { Cm.z with kind := 3, id := c.id, parent := ((Nd.whr c.id d.top).getD (0, 0)).1, index := ((Nd.whr c.id d.top).getD (0, 0)).2 }, 0) := by
  rw [Dr.move]
 rw [hmv]
 clear hmv
 refine Ctr.intro Tryz.func68 rfl rfl rfl fun E F => ?_
 refine jS (WL.boxA rfl rfl (fun _ => ?_))
 refine jW ?_
 refine WL.alloc rfl (fun _ => ?_)
 refine jW ?_
 refine jf rfl (jM (jB ?_))
 rename_i g3 g4
 refine j8 999 [1, 7] rfl (jT 0 rfl (Val.moveP rfl) (jT 1 rfl (jr rfl) (jT 2 rfl (jn rfl) (jT 3 rfl (jp 0 rfl rfl rfl) (jT 4 rfl (jn rfl) (jT 5 rfl (jp 1 rfl rfl rfl) (j5 6 rfl (WL.callK [3, 3, 3, 3, 3] rfl rfl rfl (aWhere D.A d.top hD.abs c.id _) rfl ?_))))))))
 rintro _ rfl
 rw [hw]
 refine jC (j7 [1, 7] rfl (jT 7 rfl (Val.moveT rfl) (jT 8 rfl (jq rfl rfl) (jT 9 rfl (jq rfl rfl) (jT 10 rfl (Val.extractB rfl rfl) (jT 11 rfl (Val.assignI rfl) (jT 12 rfl (Val.assignI rfl) (jT 13 rfl (Val.assignB rfl) (j6 (jA (jB (jB (j8 999 [1, 7] rfl (jT 0 rfl (Val.moveP rfl) (jT 1 rfl (jr rfl) (jT 2 rfl (jn rfl) (jT 3 rfl (jp 0 rfl rfl rfl) (jT 4 rfl (jn rfl) (jT 5 rfl (jp 1 rfl rfl rfl) (jT 6 rfl (jn rfl) (jT 7 rfl (jp 1 rfl rfl rfl) (jT 8 rfl (jn rfl) (jT 9 rfl (jp 1 rfl rfl rfl) (j5 10 rfl (WL.callP [3, 3, 3, 3, 3] rfl rfl (tMove D.A d.top hD.abs c.id c.parent c.index _) rfl ?_)))))))))))))))))))))))))
 rintro _ I1 _ hI1 ⟨rfl, B, hb, rfl, hB⟩
 refine jW ?_
 refine jC (j9 [1, 2] (hI1) rfl (jT 11 rfl (Val.assignI rfl) (j6 ?_)))
 rw [← hb]
 by_cases h2 : (Nd.move d.top c.id c.parent c.index).2 = 0
 case neg =>
  rw [if_pos h2]
  refine jK (ja rfl (jJ rfl rfl (jM (jF (jS (jm (Val.build0) ?_))))))
  refine ja rfl (WL.stA 4 rfl rfl rfl rfl ?_)
  refine jf rfl (jM (jR (jU ?_)))
  refine jP [0, 0, 2, 2, 2, 2, 2] (jr2 rfl (jcL 4 rfl rfl rfl) (jtI rfl)) ?_
  rw [Nd.move_err h2] at hB
  exact ⟨{ D with A := B }, _, rfl, Cm.z_rep _, rfl, rfl, ⟨hB, hD.rep.mono hI1, hD.segs, hD.dom, hD.lim⟩, UpdF.refl _ _ _⟩
 rw [if_neg (fun e => e h2)]
 obtain ⟨r1, r2, _, r4⟩ := hD.abs.rem_small (Nd.move_rem h2)
 refine jK (ja rfl (jz rfl rfl (jM (jE (jV (jK (jm (jn rfl) (jm (jp 3 rfl rfl rfl) (ja rfl (ja rfl (jm (Val.build (cs := (Cm.cs { Cm.z with kind := 3, id := c.id, parent := ((Nd.whr c.id d.top).getD (0, 0)).1, index := ((Nd.whr c.id d.top).getD (0, 0)).2 } (.slice none 0 0) (.slice none 0 0) (.slice none 0 0) (.slice none 0 0) (.slice none 0 0))) rfl) ?_)))))))))))
 refine WL.stA 4 rfl rfl rfl rfl ?_
 refine jf rfl (jM (jR ?_))
 refine jP [0, 0, 2, 2, 2, 2, 2] (jr2 rfl (jcL 4 rfl rfl rfl) (jtI rfl)) ?_
 refine ⟨{ D with A := B }, _, rfl, ⟨_, _, _, _, _, rfl, (⟨by decide, by decide⟩ : I64 3), hc.id, ?_, ?_, i64z, i64z, i64z, LsAt.nil _ _, Atr.z_at _, Sg.z_ok, Pt.z_ok⟩, rfl, rfl, ⟨hB, hD.rep.mono hI1, hD.segs, dom_move hD.dom (hD.abs.count_move h2), hD.lim⟩, UpdF.refl _ _ _⟩
 ·rw [r4]; exact r1
 ·rw [r4]; exact r2
theorem dUnwrap (D : Dm) (d : Dr) (c : Cm) (e t u dd q : Value) (I : Mem) (hD : DAbs I D d) (hc : c.at_ I e t u dd q) :
  Ctr Tryz.prog 70 [ptr D.b, .agg (c.cs e t u dd q).toArray] I D.hp (ApplyN (d.unwrap c) D I) := by
 obtain ⟨x0, y0, x1, y1, x2, y2, x3, y3, x4, y4, rfl, rfl, rfl, rfl, rfl⟩ := hc.sl
 obtain ⟨ta, ua, da, qa, hv, haa⟩ := hD.rep.get c.id
 have hmv : d.unwrap c = if (Nd.unwrap d.top c.id).2.2.2.2 ≠ 0 then (d, Cm.z, (Nd.unwrap d.top c.id).2.2.2.2) else (⟨(Nd.unwrap d.top c.id).1, downAt d.at_ c.id, d.segs⟩, { Cm.z with kind := 4, id := c.id, parent := (Nd.unwrap d.top c.id).2.1, index := (Nd.unwrap d.top c.id).2.2.1, count := (Nd.unwrap d.top c.id).2.2.2.1, atr := (d.at_ c.id).getD Atr.z }, 0) := by
  rw [Dr.unwrap]; rfl
 rw [hmv]
 clear hmv
 generalize (d.at_ c.id).getD Atr.z = a at hv haa ⊢
 have haa0 := haa
 obtain ⟨a1, c1, a2, c2, a3, c3, a4, c4, rfl, rfl, rfl, rfl⟩ := haa.sl
 refine Ctr.intro Tryz.func70 rfl rfl rfl fun E F => ?_
 refine jS (WL.boxA rfl rfl (fun _ => ?_))
 refine jW ?_
 refine WL.alloc rfl (fun _ => ?_)
 refine jW ?_
 refine jf rfl (jM (jB ?_))
 rename_i g3 g4
 refine j8 999 [1, 7] rfl (jT 0 rfl (Val.moveP rfl) (jT 1 rfl (jr rfl) (jT 2 rfl (jn rfl) (jT 3 rfl (jp 0 rfl rfl rfl) (jT 4 rfl (jn rfl) (jT 5 rfl (jp 1 rfl rfl rfl) (j5 6 rfl (WL.callP [3, 3, 3, 3, 3] rfl rfl (tUnwrap D.A d.top hD.abs c.id _) rfl ?_))))))))
 rintro _ I1 _ hI1 ⟨_, B, rfl, hb, rfl, hB⟩
 refine jW ?_
 refine jC (j9 [1, 2] (hI1) rfl (jT 7 rfl (Val.moveT rfl) (jT 8 rfl (jq rfl rfl) (jT 9 rfl (jq rfl rfl) (jT 10 rfl (jq rfl rfl) (jT 11 rfl (jq rfl rfl) (jT 12 rfl (Val.assignI rfl) (jT 13 rfl (Val.assignI rfl) (jT 14 rfl (Val.assignI rfl) (jT 15 rfl (Val.assignI rfl) (j6 ?_)))))))))))
 rw [← hb]
 by_cases h2 : (Nd.unwrap d.top c.id).2.2.2.2 = 0
 case neg =>
  rw [if_pos h2]
  refine jA (jB (jS (ja rfl (jJ rfl rfl (jM (jF (jS (jm (Val.build0) ?_))))))))
  refine ja rfl (WL.stA 4 rfl rfl rfl rfl ?_)
  refine jf rfl (jM (jR (jU ?_)))
  refine jP [0, 0, 2, 2, 2, 2, 2] (jr2 rfl (jcL 4 rfl rfl rfl) (jtI rfl)) ?_
  rw [Nd.unwrap_err h2] at hB
  exact ⟨{ D with A := B }, _, rfl, Cm.z_rep _, rfl, rfl, ⟨hB, hD.rep.mono hI1, hD.segs, hD.dom, hD.lim⟩, UpdF.refl _ _ _⟩
 rw [if_neg (fun e => e h2)]
 obtain ⟨r1, r2, r3⟩ := hD.abs.unwrap_small h2
 refine jA (jB (jS (ja rfl (jz rfl rfl (jM (jE (jV (jA (jB (j8 999 [1, 1, 1] rfl (jT 0 rfl (Val.moveP rfl) (jT 1 rfl (jr rfl) (jT 2 rfl (jn rfl) (jT 3 rfl (jp 0 rfl rfl rfl) (jT 4 rfl (jn rfl) (jT 5 rfl (jp 2 rfl rfl rfl) (jT 6 rfl (Val.lookup1v 1 hv rfl rfl rfl) ?_)))))))))))))))))
 refine j5 7 rfl (WL.alloc rfl (fun _ => ?_))
 rename_i g10
 refine jW ?_
 refine jC (j7 [1, 1, 1] rfl (j5 8 rfl (WL.stA 10 rfl rfl rfl rfl ?_)))
 refine jC (j7 [1, 1, 1] rfl (j6 (jA (jB (j8 999 [1, 2] rfl (jT 0 rfl (Val.moveP rfl) (jT 1 rfl (jr rfl) (jT 2 rfl (jn rfl) (jT 3 rfl (jp 0 rfl rfl rfl) (jT 4 rfl (jn rfl) (jT 5 rfl (jp 1 rfl rfl rfl) (j5 6 rfl (WL.delete 2 rfl rfl rfl ?_)))))))))))))
 refine WL.nSet ?_
 refine jC (j7 [1, 2] rfl (j6 (jK (jm (jn rfl) (jm (jp 3 rfl rfl rfl) (ja rfl (ja rfl (ja rfl (jm (jt 10 rfl rfl rfl) (jm (Val.build (cs := (Cm.cs { Cm.z with kind := 4, id := c.id, parent := (Nd.unwrap d.top c.id).2.1, index := (Nd.unwrap d.top c.id).2.2.1, count := (Nd.unwrap d.top c.id).2.2.2.1, atr := a } (.slice none 0 0) (.slice a1 a.sty.fill.stops.length c1) (.slice a2 a.sty.pen.stops.length c2) (.slice a3 a.sty.dash.length c3) (.slice a4 a.path.length c4))) rfl) ?_))))))))))
 refine WL.stA 4 rfl rfl rfl rfl ?_
 refine jf rfl (jM (jR ?_))
 exact jP [0, 0, 2, 2, 2, 2, 2] (jr2 rfl (jcL 4 rfl rfl rfl) (jtI rfl)) ⟨{ D with A := B, f := Sl.del D.f c.id, cnt := _ }, _, rfl, ⟨_, _, _, _, _, rfl, (⟨by decide, by decide⟩ : I64 4), hc.id, r1, r2, r3, i64z, i64z, LsAt.nil _ _, haa0.mono hI1, Sg.z_ok, Pt.z_ok⟩, rfl, rfl, ⟨hB, (hD.rep.mono hI1).down _, hD.segs, dom_unwrap hD.dom hD.abs.od (hD.abs.count_unwrap h2), lim_down hD.lim _⟩, (UpdF.refl _ _ _).del _⟩
end Go.Proofs.YtggcpoleklcmkaaGreatDoor
