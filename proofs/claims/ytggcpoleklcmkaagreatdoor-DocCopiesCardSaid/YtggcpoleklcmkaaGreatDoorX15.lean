/-
 Drawings: DocCopies. -- KS14
-/
import Derived.Test.YtggcpoleklcmkaaGreatDoorX2
import Derived.Test.YtggcpoleklcmkaaGreatDoorX14
import Derived.Test.YtggcpoleklcmkaaGreatDoorX4
import Derived.Test.YtggcpoleklcmkaaGreatDoorX3
set_option linter.unusedVariables false
set_option linter.unusedSimpArgs false
set_option maxRecDepth 100000
set_option maxHeartbeats 8000000
namespace Go.Sl
theorem Sat.foldEnd {E : Ev} {w : World} {I : Mem} {F a b : HP} {A : List HP} (h : Sat E w I (F :: a :: b :: A)) : Sat E w I [F, a, b, sts A] := by
 have h1 : Sat E w I (A ++ [F, a, b]) := h.perm (List.perm_append_comm (l₁ := [F, a, b]))
 exact (h1.fold A).perm (List.perm_append_comm (l₁ := [sts A]) (l₂ := [F, a, b]))
theorem WC.thaw {Γ : Cx} {ρ : Nat → Value} {I I0 : Mem} {F : HP} {L : List HP} {Q : Post} {c : Code} (t : Nat) (hI : I0.le I) (next : WC Γ c ρ I0 (F :: simM t (Mem.minus I I0) :: L) Q) : WC Γ c ρ I (F :: L) Q := fun a w ha hw => next a w ha ((hw.thaw t hI).perm (List.Perm.swap _ _ _))
theorem Sat.unfoldEnd {E : Ev} {w : World} {I : Mem} {L A : List HP} (k : Nat) (hL : L[k]? = some (sts A)) (h : Sat E w I L) : Sat E w I (L.eraseIdx k ++ A) := ((h.perm (pull k L _ hL)).unfold).perm List.perm_append_comm
end Go.Sl
namespace Go.Proofs.YtggcpoleklcmkaaGreatDoor
open Go.Sl Go.Ls Go.Tr Go.Dc
attribute [local irreducible] WC WL WX WK WA WAK Val Ctr RunRes ResIs Rd At sl box pt Exit.then Exit.inBlock bodyPost Code.wp wpList
theorem dCopies (l : List Cm) (v : Value) (m : List Cm) (u : Value) (I : Mem) (hN : NeedAt I) (hv : LsAt Cm.rep I l v) (hu : LsAt Cm.rep I m u) : Ctr Tryz.prog 6 [v, u] I [] (KeepR [] fun v _ => v = .bool true) := by
 have hv0 := hv
 have hu0 := hu
 obtain ⟨a1, c1, rfl⟩ := hv.sl
 obtain ⟨a2, c2, rfl⟩ := hu.sl
 refine Ctr.intro Tryz.func6 rfl rfl rfl fun E F => ?_
 refine jS (jg rfl (jM (jB (jS (jc rfl ?_)))))
 refine WL.callE rfl rfl (small_ctr l 20 _ _ hv0) rfl (fun hs => ?_) (fun hs => ?_)
 case refine_2 =>
  refine jl rfl (jb rfl (jH (jH (jH (jk rfl (jM (jF (jS (WL.callP [] rfl rfl (dAwake _ hN) rfl ?_)))))))))
  rintro _ I2 _ hI2 ⟨rfl, rfl⟩
  refine jW ?_
  refine jg rfl (jM (jR (jU ?_)))
  exact jP [] (jr1 rfl (jtB rfl)) ⟨rfl, rfl⟩
 refine jl rfl (jb rfl (jG (jc rfl (jG ?_))))
 refine WL.callE rfl rfl (small_ctr m 20 _ _ hu0) rfl (fun hs2 => ?_) (fun hs2 => ?_)
 case refine_2 =>
  refine jG (jl rfl (jk rfl (jM (jF (jS (WL.callP [] rfl rfl (dAwake _ hN) rfl ?_))))))
  rintro _ I2 _ hI2 ⟨rfl, rfl⟩
  refine jW ?_
  refine jg rfl (jM (jR (jU ?_)))
  exact jP [] (jr1 rfl (jtB rfl)) ⟨rfl, rfl⟩
 have hl20 := hs.2
 have hm20 := hs2.2
 refine jG (jl rfl (jk rfl (jM (jE (jV (jK (jc rfl (WL.callP [] rfl rfl (dPlay l _ _ hN hv0 hs.1 (by omega)) rfl ?_))))))))
 rintro _ I1 _ hI1 ⟨D, d, g, mb, cnt, kv, at_, f, rfl, rfl, hD, hF, hkv, hat, hag, hsg⟩
 refine WL.conv (fun w h => Sat.foldEnd (A := D.hp) h) ?_
 have hN1 := hN.mono hI1
 have hkv0 := hkv
 obtain ⟨ka, kc, rfl⟩ := hkv.sl
 refine je rfl (jm (Val.extractP rfl rfl) (jm (Val.extractP rfl rfl) (jm (Val.extractB rfl rfl) (ji rfl (ji rfl (jg rfl (jM (jB (jS (jb rfl (jl rfl (jM (jE (jV (jK (jd rfl (WL.callSts 3 rfl rfl rfl (dCopy D d _ hD) rfl ?_)))))))))))))))))
 rintro _ I2 _ _ ⟨rfl, D2, rfl, rfl, hD2⟩
 refine WL.nSet ?_
 refine WL.splitSts 3 rfl ?_
 change WL _ _ _ _ _ [F, _, _, _, _] _
 refine jd rfl (WL.callSts 3 rfl rfl rfl (dTree D d _ hD) rfl ?_)
 rintro _ I3 _ _ ⟨rfl, C, rfl, rfl, hC⟩
 refine WL.nSet ?_
 refine WL.splitSts 3 rfl ?_
 change WL _ _ _ _ _ [F, _, _, _, _, _] _
 refine ji rfl (ji rfl (jN (jd rfl (WL.callStsR 3 rfl rfl rfl (dEntriesN D d _ hD) rfl ?_))))
 rintro v4 I4 hI4 ⟨hv4, hnv⟩
 have hv40 := hv4
 have hle4 := hv4.le
 unfold maxLen at hle4
 obtain ⟨a4, c4, rfl⟩ := hv4.sl
 refine jh rfl (jM (jB (jS (jc rfl (jm (jo rfl) (ja rfl (jM (WC.block (WC.thaw 69 hI4 ?_)))))))))
 refine WC.loop (fun n ρ' I' L' => ∃ i : Nat, n = d.entries.length - i ∧ i ≤ d.entries.length ∧ I' = I3 ∧ ρ' 1 = .slice a2 m.length c2 ∧ ρ' 5 = ptr D.b ∧ ρ' 6 = ptr g ∧ ρ' 8 = ptr D2.b ∧ ρ' 9 = ptr C.b ∧ ρ' 10 = .slice a4 d.entries.length c4 ∧ ρ' 42 = vi d.entries.length ∧ ρ' 43 = vi i ∧ L' = [F, simM 69 (Mem.minus I4 I3), mbox g mb d.top (.slice ka d.top.kids.length kc), mp mb f cnt, sts D.hp, sts D2.hp, sts C.hp])
  d.entries.length ⟨0, rfl, Nat.zero_le _, rfl, rfl, rfl, rfl, rfl, rfl, rfl, rfl, rfl, rfl⟩ ?_
 rintro n ρ' I5 L' ⟨i, rfl, hi, rfl, q1, q5, q6, q8, q9, q10, q42, q43, rfl⟩
 refine ju8 q43 q42 q10 q9 q8 q6 q5 q1 ?_
 by_cases hin : i < d.entries.length
 ·obtain ⟨b, off, cap, cs, he, ⟨t, u, dd, q, rfl, hx, hnq, hnd⟩, hA⟩ := hv40.get i hin
  cases he
  generalize d.entries[i] = x at *
  have hxq := hx.atr.path
  have hxd := hx.atr.sty.dash
  have hlq := hxq.le
  have hld := hxd.le
  unfold maxLen at hlq hld
  obtain ⟨p1, o1, p2, o2, p3, o3, p4, o4, rfl, rfl, rfl, rfl⟩ := hx.sl
  refine jS (jy rfl rfl (jM (jB (jF (jV (jA (jB (WC.block (jS (ja rfl (jf rfl (jM (jB (jS (jc rfl (ja rfl (jm (jZ rfl rfl) (jm (jn rfl) (jm (jn rfl) (jm (Val.loadS rfl (Rd.sim 1 36 rfl hnv hA rfl)) ?_))))))))))))))))))))
  refine jm (jo rfl) (ja rfl (jM (WC.block ?_)))
  refine WC.loop (fun n ρ' I' L' => ∃ k : Nat, n = x.atr.path.length - k ∧ k ≤ x.atr.path.length ∧ I' = I5 ∧ ρ' 1 = .slice a2 m.length c2 ∧ ρ' 5 = ptr D.b ∧ ρ' 6 = ptr g ∧ ρ' 8 = ptr D2.b ∧ ρ' 9 = ptr C.b ∧ ρ' 10 = .slice (some ⟨b, off, none⟩) d.entries.length c4 ∧ ρ' 42 = vi d.entries.length ∧ ρ' 43 = vi i ∧ ρ' 11 = vi i ∧ ρ' 52 = vi x.atr.path.length ∧ ρ' 53 = vi k ∧ L' = [F, simM 69 (Mem.minus I4 I5), mbox g mb d.top (.slice ka d.top.kids.length kc), mp mb f cnt, sts D.hp, sts D2.hp, sts C.hp])
   x.atr.path.length ⟨0, rfl, Nat.zero_le _, rfl, rfl, rfl, rfl, rfl, rfl, rfl, rfl, rfl, rfl, rfl, rfl, rfl⟩ ?_
  rintro n ρ' I6 L' ⟨k, rfl, hk, rfl, q1, q5, q6, q8, q9, q10, q42, q43, q11, qa, qb, rfl⟩
  refine ju11 qb qa q11 q43 q42 q10 q9 q8 q6 q5 q1 ?_
  by_cases hkn : k < x.atr.path.length
  ·obtain ⟨b5, off5, cap5, cs5, he5, ⟨rfl, _⟩, hA5⟩ := hxq.get k hkn
   cases he5
   refine jS (jy rfl rfl (jM (jB (jF (jV (jA (jB (WC.block (jS (ja rfl (jf rfl (jM (jD (jc rfl (ja rfl (jm (jZ rfl rfl) (jm (jn rfl) (jm (jn rfl) (jm (Val.loadS rfl (Rd.sim 1 36 rfl hnv hA rfl)) ?_)))))))))))))))))))
   refine ja rfl (jm (jZ rfl rfl) (jm (jn rfl) (WL.storeSim (j := 0) 1 rfl rfl hnq hA5 (Nat.zero_lt_succ _) (by decide) rfl rfl rfl ?_)))
   exact jC (WX.inNormal (jA (jD (jX rfl rfl (ja rfl (jC (WX.thenK (WK.round (x.atr.path.length - (k + 1)) (by omega) ⟨k + 1, rfl, by omega, rfl, rfl, rfl, rfl, rfl, rfl, rfl, rfl, rfl, rfl, rfl, rfl, rfl⟩))))))))
  have hkl : k = x.atr.path.length := by omega
  subst hkl
  refine jS (jx rfl rfl (jM (jB (jE (WC.exit (WX.thenExit (WX.thenExit (WX.inHit (jK (jc rfl (ja rfl (jm (jZ rfl rfl) (jm (jn rfl) (jm (jn rfl) (jm (jn rfl) (jm (jn rfl) (jm (Val.loadS rfl (Rd.sim 1 32 rfl hnv hA rfl)) ?_)))))))))))))))))
  refine jm (jo rfl) (ja rfl (jM (WC.block ?_)))
  refine WC.loop (fun n ρ' I' L' => ∃ k : Nat, n = x.atr.sty.dash.length - k ∧ k ≤ x.atr.sty.dash.length ∧ I' = I6 ∧ ρ' 1 = .slice a2 m.length c2 ∧ ρ' 5 = ptr D.b ∧ ρ' 6 = ptr g ∧ ρ' 8 = ptr D2.b ∧ ρ' 9 = ptr C.b ∧ ρ' 10 = .slice (some ⟨b, off, none⟩) d.entries.length c4 ∧ ρ' 42 = vi d.entries.length ∧ ρ' 43 = vi i ∧ ρ' 11 = vi i ∧ ρ' 74 = vi x.atr.sty.dash.length ∧ ρ' 75 = vi k ∧ L' = [F, simM 69 (Mem.minus I4 I6), mbox g mb d.top (.slice ka d.top.kids.length kc), mp mb f cnt, sts D.hp, sts D2.hp, sts C.hp])
   x.atr.sty.dash.length ⟨0, rfl, Nat.zero_le _, rfl, rfl, rfl, rfl, rfl, rfl, rfl, rfl, rfl, rfl, rfl, rfl, rfl⟩ ?_
  rintro n ρ' I7 L' ⟨k, rfl, hk, rfl, q1, q5, q6, q8, q9, q10, q42, q43, q11, qa, qb, rfl⟩
  refine ju11 qb qa q11 q43 q42 q10 q9 q8 q6 q5 q1 ?_
  by_cases hkn : k < x.atr.sty.dash.length
  ·obtain ⟨b5, off5, cap5, cs5, he5, ⟨rfl, _⟩, hA5⟩ := hxd.get k hkn
   cases he5
   refine jS (jy rfl rfl (jM (jB (jF (jV (jA (jB (WC.block (jS (ja rfl (jf rfl (jM (jD (jc rfl (ja rfl (jm (jZ rfl rfl) (jm (jn rfl) (jm (jn rfl) (jm (jn rfl) (jm (jn rfl) (jm (Val.loadS rfl (Rd.sim 1 32 rfl hnv hA rfl)) ?_)))))))))))))))))))))
   refine ja rfl (jm (jZ rfl rfl) (WL.storeSim (j := 0) 1 rfl rfl hnd hA5 (Nat.zero_lt_succ _) (by decide) rfl rfl rfl ?_))
   exact jC (WX.inNormal (jA (jD (jX rfl rfl (ja rfl (jC (WX.thenK (WK.round (x.atr.sty.dash.length - (k + 1)) (by omega) ⟨k + 1, rfl, by omega, rfl, rfl, rfl, rfl, rfl, rfl, rfl, rfl, rfl, rfl, rfl, rfl, rfl⟩))))))))
  have hkl : k = x.atr.sty.dash.length := by omega
  subst hkl
  exact jS (jx rfl rfl (jM (jB (jE (WC.exit (WX.thenExit (WX.thenExit (WX.inHit (WX.inNormal (jA (jD (jX rfl rfl (ja rfl (jC (WX.thenK (WK.round (d.entries.length - (i + 1)) (by omega) ⟨i + 1, rfl, by omega, rfl, rfl, rfl, rfl, rfl, rfl, rfl, rfl, rfl, rfl⟩))))))))))))))))
 have hil : i = d.entries.length := by omega
 subst hil
 refine jS (jx rfl rfl (jM (jB (jE (WC.exit (WX.thenExit (WX.thenExit (WX.inHit (jA (jB (jS (jc rfl (jm (jo rfl) (ja rfl (jM (WC.block (WC.conv (fun w h => h.sub [0, 1, 1, 1, 1, 1] rfl) ?_)))))))))))))))))
 refine WC.loop (fun n ρ' I' L' => ∃ (j : Nat) (D' : Dm) (d' : Dr), n = m.length - j ∧ j ≤ m.length ∧ I5.le I' ∧ ρ' 5 = ptr D'.b ∧ ρ' 6 = ptr g ∧ ρ' 8 = ptr D2.b ∧ ρ' 9 = ptr C.b ∧ ρ' 90 = .slice a2 m.length c2 ∧ ρ' 91 = vi m.length ∧ ρ' 92 = vi j ∧ L' = [F, mbox g mb d.top (.slice ka d.top.kids.length kc), mp mb f cnt, sts D'.hp, sts D2.hp, sts C.hp] ∧ DAbs I' D' d' ∧ Fit d' ∧ d'.segs ≤ 24000 + 1200 * (j : Int))
  m.length ⟨0, D, d, rfl, Nat.zero_le _, Mem.le.refl _, rfl, rfl, rfl, rfl, rfl, rfl, rfl, rfl, hD, hF, by omega⟩ ?_
 clear hv4 hv40 hnv hI4
 rintro n ρ' I6 L' ⟨j, D', d', rfl, hj, hI6, q5, q6, q8, q9, q90, q91, q92, rfl, hD', hF', hsg'⟩
 refine ju7 q92 q91 q90 q9 q8 q6 q5 ?_
 have hN6 := hN1.mono hI6
 by_cases hjn : j < m.length
 ·obtain ⟨bq, off, cap, cs, he, ⟨e, t, u, dd, q, rfl, hc⟩, hA⟩ := (hu0.mono (hI1.trans hI6)).get j hjn
  cases he
  have hsm := hs2.1 _ (List.getElem_mem hjn)
  generalize m[j] = c at *
  have hse := small_segs hsm
  have hnn := segsOf_nonneg c.ents
  have hle : c.ents.length ≤ 100000 := by have := hsm.1; omega
  have hc0 := hc
  obtain ⟨x0, y0, x1, y1, x2, y2, x3, y3, x4, y4, rfl, rfl, rfl, rfl, rfl⟩ := hc.sl
  have hsg2 := apply_segs (d := d') hsm
  refine jS (jy rfl rfl (jM (jB (jF (jV (jA (jB (WC.block (jS (jm (jZ rfl rfl) (jm (Val.loadI rfl (by assumption) rfl) ?_)))))))))))
  refine WL.alloc rfl (fun _ => ?_)
  refine jW ?_
  refine WL.stA 6 rfl rfl rfl rfl ?_
  refine jM (jD (jd rfl (jm (jt 6 rfl rfl rfl) (WL.callSts 3 rfl rfl rfl (dApply D' d' c _ _ _ _ _ _ hN6 hD' hc0 hle hF'.inv.nonneg (by omega)) rfl ?_))))
  rintro _ I7 _ hI7 ⟨D3, bcs, rfl, ⟨e', t', u', d3, q', rfl, hbk⟩, hb, rfl, hD3⟩
  obtain ⟨_, _, _, _, _, _, _, _, _, _, rfl, rfl, rfl, rfl, rfl⟩ := hbk.sl
  refine WL.nSet ?_
  rw [← hb]
  exact jC (WX.inNormal (jA (jD (jX rfl rfl (ja rfl (jC (WX.conv (fun w h => h.sub [0, 0, 0, 0, 0, 0] rfl) (WX.thenK (WK.round (m.length - (j + 1)) (by omega) ⟨j + 1, D3, (d'.apply c).1, rfl, by omega, hI6.trans hI7, rfl, rfl, rfl, rfl, rfl, rfl, rfl, rfl, hD3, hF'.apply (c := c) hD'.abs hD'.dom hD3.abs, by omega⟩)))))))))
 have hjl : j = m.length := by omega
 subst hjl
 refine jS (jx rfl rfl (jM (jB (jE (WC.exit (WX.thenExit (WX.thenExit (WX.inHit (jK (jd rfl (WL.callStsR 5 rfl rfl rfl (aNode C d.top hC 0 _) rfl ?_)))))))))))
 rintro _ I7 hI7 ⟨_, rfl, kn, rfl, hkn, hin⟩
 rw [hC.find0] at hkn hin ⊢
 simp only [Option.isSome, Option.getD] at hkn hin ⊢
 obtain ⟨na, nc, rfl⟩ := hkn.sl
 refine je rfl (jm (Val.extractA rfl rfl) (jm (Val.extractB rfl rfl) (WL.alloc rfl (fun _ => ?_))))
 refine jW ?_
 refine WL.stA 6 rfl rfl rfl rfl ?_
 refine jg rfl (jM (jB ?_))
 rename_i g16
 have hJ7 := hI6.trans hI7
 have hsz := hC.size_le
 have hpos := d.top.size_pos
 refine WC.conv (fun w h => Sat.unfoldEnd (A := D2.hp) 4 rfl h) ?_
 change WC _ _ _ _ [F, _, _, _, _, _, _, _, _, _, _, _, _] _
 refine j8 999 [1, 4] rfl (jT 0 rfl (Val.moveP rfl) (jT 1 rfl (Val.moveP rfl) (j5 2 rfl (WL.callR [1, 1, 4, 4, 4, 4, 4, 4, 4] rfl rfl rfl (mIs D2 d _ (hD2.mono hJ7) hF.inv _ at_ f g mb cnt (hkv0.mono hJ7) (hat.mono hJ7) hag) rfl ?_))))
 rintro _ I8 hI8 rfl
 refine jC (j9 [1, 4] (hI8) rfl (jT 3 rfl (Val.moveB rfl) (jT 4 rfl (jn rfl) (jT 5 rfl (jp 1 rfl rfl rfl) (jT 6 rfl (jo rfl) (jT 7 rfl (Val.moveP rfl) (jT 8 rfl (jr rfl) (jT 9 rfl (jn rfl) (jT 10 rfl (jn rfl) (jT 11 rfl (jp 0 rfl rfl rfl) (jT 12 rfl (jo rfl) (jT 13 rfl (Val.eql rfl rfl (beq_iff_eq.2 (by omega))) ?_))))))))))))
 refine jT 14 rfl (Val.pick rfl) (jT 15 rfl (Val.moveB rfl) (jT 16 rfl (Val.moveP rfl) (jT 18 rfl (Val.moveP rfl) (jT 19 rfl (jr rfl) (jT 20 rfl (jn rfl) (jT 21 rfl (jt 0 rfl rfl rfl) (j5 17 rfl (jG (WL.callStsK 4 rfl rfl rfl (aCount C d.top hC _) rfl ?_)))))))))
 rintro _ rfl
 refine jC (j9 [1, 4] (hI8) rfl (j5 22 rfl (jG (WL.callS rfl rfl (rSize _ d.top (Nat.le_refl _) _ _ (by omega) hin ((hkv0.mono hJ7).mono hI8)) rfl ?_))))
 rintro _ rfl
 refine jC (j9 [1, 4] (hI8) rfl (jT 23 rfl (Val.sub rfl rfl (wrap_i64 (by omega) (by omega))) ?_))
 refine jT 24 rfl (Val.eql rfl rfl (beq_iff_eq.2 (by omega))) ?_
 refine jT 25 rfl (Val.pick rfl) (jT 26 rfl (Val.moveB rfl) (j5 27 rfl (jG (WL.callP [] rfl rfl (dAwake _ ((hN6.mono hI7).mono hI8)) rfl ?_))))
 rintro _ I9 _ hI9 ⟨rfl, rfl⟩
 refine jW ?_
 have hJ9 := hI8.trans hI9
 refine jC (j9 [1, 4] (hJ9) rfl (jT 28 rfl (Val.pick rfl) (jT 29 rfl (Val.assignB rfl) (j6 (jA (jR ?_))))))
 have hJ := (hI1.trans hJ7).trans hJ9
 exact jP [] (jr1 rfl (jtB rfl)) ⟨rfl, rfl⟩
end Go.Proofs.YtggcpoleklcmkaaGreatDoor
