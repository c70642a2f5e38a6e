/-
 Drawings: arguments that read as data are commands, entries, bytes.
-/
import Derived.Test.YtggcpoleklcmkaaGreatDoorX8
import Derived.Test.YtggcpoleklcmkaaGreatDoorX4
import Derived.Test.YtggcpoleklcmkaaGreatDoorX2
import Derived.Lib.LaidTab
import Derived.Test.YtggcpoleklcmkaaGreatDoorCards
import Derived.Test.YtggcpoleklcmkaaGreatDoorTie
import Derived.ProofKit
import Derived.Carry
import Derived.Lib.SmallJoins
import Derived.Deep.DeepHandedRow
import Derived.Test.YtggcpoleklcmkaaGreatDoorX12
set_option linter.unusedVariables false
set_option linter.unusedSimpArgs false
set_option maxRecDepth 100000
set_option maxHeartbeats 8000000
namespace Go.Proofs.YtggcpoleklcmkaaGreatDoor
open Go.Sl Go.Ls Go.Dc
instance : LvK Tryz.prog 203 (3 :: 5 :: 5 :: 5 :: 5 :: []) := ⟨by kernel_rfl⟩
instance : LvK Tryz.prog 57 (3 :: 3 :: 3 :: 3 :: 3 :: 3 :: 3 :: []) := ⟨by kernel_rfl⟩
instance : LvK Tryz.prog 69 (3 :: 4 :: 3 :: 3 :: 3 :: 3 :: 3 :: 3 :: 3 :: 3 :: 5 :: 5 :: 5 :: 5 :: 3 :: 3 :: 3 :: 3 :: 28 :: 3 :: 5 :: 5 :: 5 :: 5 :: 3 :: 3 :: 3 :: 3 :: 28 :: 3 :: 3 :: 3 :: 31 :: 3 :: 3 :: 3 :: 36 :: []) := ⟨by kernel_rfl⟩
instance : LvK Tryz.prog 59 (3 :: 3 :: 3 :: 3 :: 3 :: 3 :: 3 :: 54 :: 3 :: 3 :: 3 :: 3 :: 3 :: 3 :: 3 :: 5 :: 5 :: 5 :: 5 :: 3 :: 3 :: 3 :: 3 :: 28 :: 3 :: 5 :: 5 :: 5 :: 5 :: 3 :: 3 :: 3 :: 3 :: 28 :: 3 :: 3 :: 3 :: 31 :: 3 :: 3 :: 3 :: 36 :: 3 :: 3 :: 3 :: 3 :: 3 :: 3 :: 3 :: 3 :: 3 :: []) := ⟨by kernel_rfl⟩
theorem all2_map {α β γ : Type} {R : β → γ → Prop} {X : α → β} {Y : α → γ} : ∀ (l : List α), (∀ i ∈ l, R (X i) (Y i)) → All2 R (l.map X) (l.map Y)
 | [], _ => trivial
 | a :: l, h => ⟨h a (List.mem_cons_self ..), all2_map l fun i hi => h i (List.mem_cons_of_mem _ hi)⟩
section
variable {H : Type} {enc : TypeId × Value → H} {W : World}
theorem open_ls {α : Type} {R : Rep α} {t e sz : Nat} [hk : SlK Tryz.prog t e sz] (hsz : 0 < sz) (hel : ∀ cs, TrodOk enc Tryz.prog W e cs → ∃ x, R (heapOf W) x cs) {cs : List Value} (h : TrodOk enc Tryz.prog W t cs) : ∃ l v, cs = [v] ∧ LsAt R (heapOf W) l v := by
 obtain ⟨a, len, cap, rfl, hc, h0 | ⟨b, off, rfl, hC⟩⟩ := h.slice hk.is hsz
 ·subst h0
  exact ⟨[], _, rfl, [], ⟨a, cap, rfl, hc, .inl ⟨rfl, rfl⟩⟩, trivial⟩
 ·rcases Nat.eq_zero_or_pos len with h0 | h0
  ·subst h0
   exact ⟨[], _, rfl, [], ⟨_, cap, rfl, hc, .inl ⟨rfl, rfl⟩⟩, trivial⟩
  obtain ⟨C, hC⟩ := Go.Deep.choose_lt (p := fun i C => C.length = sz ∧ At (heapOf W) b (off + i * sz) C ∧ TrodOk enc Tryz.prog W e C) hC
  haveI : Inhabited α := ⟨(hel _ (hC 0 h0).2.2).choose⟩
  obtain ⟨X, hX⟩ := Go.Deep.choose_lt (p := fun i x => R (heapOf W) x (C i)) fun i hi => hel _ (hC i hi).2.2
  refine ⟨(List.range len).map X, _, rfl, (List.range len).map C, ⟨_, cap, by simp, by simpa using hc, .inr ⟨b, off, rfl, At.join len off h0 fun i hi => ⟨(hC i hi).1, (hC i hi).2.1⟩⟩⟩, all2_map _ fun i hi => hX i (List.mem_range.1 hi)⟩
theorem open_int {cs : List Value} (h : TrodOk enc Tryz.prog W 3 cs) : ∃ n, Ls.Int.rep (heapOf W) n cs := by
 obtain ⟨n, rfl, h0, h1⟩ := h.i64
 exact ⟨n, rfl, h0, h1⟩
theorem open_stp {cs : List Value} (h : TrodOk enc Tryz.prog W 203 cs) : ∃ x, Stp.rep (heapOf W) x cs := by
 replace h := h.leaves
 obtain ⟨c0, r0, hr0, t0, h⟩ := h.cons
 obtain ⟨n0, e0, b0⟩ := t0.i64
 cases e0
 obtain ⟨c1, r1, hr1, t1, h⟩ := h.cons
 obtain ⟨n1, e1⟩ := t1.u8
 cases e1
 obtain ⟨c2, r2, hr2, t2, h⟩ := h.cons
 obtain ⟨n2, e2⟩ := t2.u8
 cases e2
 obtain ⟨c3, r3, hr3, t3, h⟩ := h.cons
 obtain ⟨n3, e3⟩ := t3.u8
 cases e3
 obtain ⟨c4, r4, hr4, t4, h⟩ := h.cons
 obtain ⟨n4, e4⟩ := t4.u8
 cases e4
 have hn := h.nil
 subst hn
 subst hr4
 subst hr3
 subst hr2
 subst hr1
 subst hr0
 exact ⟨⟨n0, ⟨n1, n2, n3, n4⟩⟩, rfl, b0⟩
theorem open_sg {cs : List Value} (h : TrodOk enc Tryz.prog W 57 cs) : ∃ x, Sg.rep (heapOf W) x cs := by
 replace h := h.leaves
 obtain ⟨c0, r0, hr0, t0, h⟩ := h.cons
 obtain ⟨n0, e0, b0⟩ := t0.i64
 cases e0
 obtain ⟨c1, r1, hr1, t1, h⟩ := h.cons
 obtain ⟨n1, e1, b1⟩ := t1.i64
 cases e1
 obtain ⟨c2, r2, hr2, t2, h⟩ := h.cons
 obtain ⟨n2, e2, b2⟩ := t2.i64
 cases e2
 obtain ⟨c3, r3, hr3, t3, h⟩ := h.cons
 obtain ⟨n3, e3, b3⟩ := t3.i64
 cases e3
 obtain ⟨c4, r4, hr4, t4, h⟩ := h.cons
 obtain ⟨n4, e4, b4⟩ := t4.i64
 cases e4
 obtain ⟨c5, r5, hr5, t5, h⟩ := h.cons
 obtain ⟨n5, e5, b5⟩ := t5.i64
 cases e5
 obtain ⟨c6, r6, hr6, t6, h⟩ := h.cons
 obtain ⟨n6, e6, b6⟩ := t6.i64
 cases e6
 have hn := h.nil
 subst hn
 subst hr6
 subst hr5
 subst hr4
 subst hr3
 subst hr2
 subst hr1
 subst hr0
 exact ⟨⟨n0, ⟨n1, n2⟩, ⟨n3, n4⟩, ⟨n5, n6⟩⟩, rfl, ⟨b0, ⟨b1, b2⟩, ⟨b3, b4⟩, ⟨b5, b6⟩⟩⟩
theorem open_stops {cs : List Value} (h : TrodOk enc Tryz.prog W 28 cs) : ∃ l v, cs = [v] ∧ LsAt Stp.rep (heapOf W) l v := open_ls (t := 28) (by decide) (fun cs h => open_stp h) h
theorem open_ints {cs : List Value} (h : TrodOk enc Tryz.prog W 31 cs) : ∃ l v, cs = [v] ∧ LsAt Ls.Int.rep (heapOf W) l v := open_ls (t := 31) (by decide) (fun cs h => open_int h) h
theorem open_segs {cs : List Value} (h : TrodOk enc Tryz.prog W 36 cs) : ∃ l v, cs = [v] ∧ LsAt Sg.rep (heapOf W) l v := open_ls (t := 36) (by decide) (fun cs h => open_sg h) h
theorem open_ent {cs : List Value} (h : TrodOk enc Tryz.prog W 69 cs) : ∃ x, Ent.rep (heapOf W) x cs := by
 replace h := h.leaves
 obtain ⟨c0, r0, hr0, t0, h⟩ := h.cons
 obtain ⟨n0, e0, b0⟩ := t0.i64
 cases e0
 obtain ⟨c1, r1, hr1, t1, h⟩ := h.cons
 obtain ⟨n1, e1⟩ := t1.b
 cases e1
 obtain ⟨c2, r2, hr2, t2, h⟩ := h.cons
 obtain ⟨n2, e2, b2⟩ := t2.i64
 cases e2
 obtain ⟨c3, r3, hr3, t3, h⟩ := h.cons
 obtain ⟨n3, e3, b3⟩ := t3.i64
 cases e3
 obtain ⟨c4, r4, hr4, t4, h⟩ := h.cons
 obtain ⟨n4, e4, b4⟩ := t4.i64
 cases e4
 obtain ⟨c5, r5, hr5, t5, h⟩ := h.cons
 obtain ⟨n5, e5, b5⟩ := t5.i64
 cases e5
 obtain ⟨c6, r6, hr6, t6, h⟩ := h.cons
 obtain ⟨n6, e6, b6⟩ := t6.i64
 cases e6
 obtain ⟨c7, r7, hr7, t7, h⟩ := h.cons
 obtain ⟨n7, e7, b7⟩ := t7.i64
 cases e7
 obtain ⟨c8, r8, hr8, t8, h⟩ := h.cons
 obtain ⟨n8, e8, b8⟩ := t8.i64
 cases e8
 obtain ⟨c9, r9, hr9, t9, h⟩ := h.cons
 obtain ⟨n9, e9, b9⟩ := t9.i64
 cases e9
 obtain ⟨c10, r10, hr10, t10, h⟩ := h.cons
 obtain ⟨n10, e10⟩ := t10.u8
 cases e10
 obtain ⟨c11, r11, hr11, t11, h⟩ := h.cons
 obtain ⟨n11, e11⟩ := t11.u8
 cases e11
 obtain ⟨c12, r12, hr12, t12, h⟩ := h.cons
 obtain ⟨n12, e12⟩ := t12.u8
 cases e12
 obtain ⟨c13, r13, hr13, t13, h⟩ := h.cons
 obtain ⟨n13, e13⟩ := t13.u8
 cases e13
 obtain ⟨c14, r14, hr14, t14, h⟩ := h.cons
 obtain ⟨n14, e14, b14⟩ := t14.i64
 cases e14
 obtain ⟨c15, r15, hr15, t15, h⟩ := h.cons
 obtain ⟨n15, e15, b15⟩ := t15.i64
 cases e15
 obtain ⟨c16, r16, hr16, t16, h⟩ := h.cons
 obtain ⟨n16, e16, b16⟩ := t16.i64
 cases e16
 obtain ⟨c17, r17, hr17, t17, h⟩ := h.cons
 obtain ⟨n17, e17, b17⟩ := t17.i64
 cases e17
 obtain ⟨c18, r18, hr18, t18, h⟩ := h.cons
 obtain ⟨n18, v18, e18, b18⟩ := open_stops t18
 cases e18
 obtain ⟨c19, r19, hr19, t19, h⟩ := h.cons
 obtain ⟨n19, e19, b19⟩ := t19.i64
 cases e19
 obtain ⟨c20, r20, hr20, t20, h⟩ := h.cons
 obtain ⟨n20, e20⟩ := t20.u8
 cases e20
 obtain ⟨c21, r21, hr21, t21, h⟩ := h.cons
 obtain ⟨n21, e21⟩ := t21.u8
 cases e21
 obtain ⟨c22, r22, hr22, t22, h⟩ := h.cons
 obtain ⟨n22, e22⟩ := t22.u8
 cases e22
 obtain ⟨c23, r23, hr23, t23, h⟩ := h.cons
 obtain ⟨n23, e23⟩ := t23.u8
 cases e23
 obtain ⟨c24, r24, hr24, t24, h⟩ := h.cons
 obtain ⟨n24, e24, b24⟩ := t24.i64
 cases e24
 obtain ⟨c25, r25, hr25, t25, h⟩ := h.cons
 obtain ⟨n25, e25, b25⟩ := t25.i64
 cases e25
 obtain ⟨c26, r26, hr26, t26, h⟩ := h.cons
 obtain ⟨n26, e26, b26⟩ := t26.i64
 cases e26
 obtain ⟨c27, r27, hr27, t27, h⟩ := h.cons
 obtain ⟨n27, e27, b27⟩ := t27.i64
 cases e27
 obtain ⟨c28, r28, hr28, t28, h⟩ := h.cons
 obtain ⟨n28, v28, e28, b28⟩ := open_stops t28
 cases e28
 obtain ⟨c29, r29, hr29, t29, h⟩ := h.cons
 obtain ⟨n29, e29, b29⟩ := t29.i64
 cases e29
 obtain ⟨c30, r30, hr30, t30, h⟩ := h.cons
 obtain ⟨n30, e30, b30⟩ := t30.i64
 cases e30
 obtain ⟨c31, r31, hr31, t31, h⟩ := h.cons
 obtain ⟨n31, e31, b31⟩ := t31.i64
 cases e31
 obtain ⟨c32, r32, hr32, t32, h⟩ := h.cons
 obtain ⟨n32, v32, e32, b32⟩ := open_ints t32
 cases e32
 obtain ⟨c33, r33, hr33, t33, h⟩ := h.cons
 obtain ⟨n33, e33, b33⟩ := t33.i64
 cases e33
 obtain ⟨c34, r34, hr34, t34, h⟩ := h.cons
 obtain ⟨n34, e34, b34⟩ := t34.i64
 cases e34
 obtain ⟨c35, r35, hr35, t35, h⟩ := h.cons
 obtain ⟨n35, e35, b35⟩ := t35.i64
 cases e35
 obtain ⟨c36, r36, hr36, t36, h⟩ := h.cons
 obtain ⟨n36, v36, e36, b36⟩ := open_segs t36
 cases e36
 have hn := h.nil
 subst hn
 subst hr36
 subst hr35
 subst hr34
 subst hr33
 subst hr32
 subst hr31
 subst hr30
 subst hr29
 subst hr28
 subst hr27
 subst hr26
 subst hr25
 subst hr24
 subst hr23
 subst hr22
 subst hr21
 subst hr20
 subst hr19
 subst hr18
 subst hr17
 subst hr16
 subst hr15
 subst hr14
 subst hr13
 subst hr12
 subst hr11
 subst hr10
 subst hr9
 subst hr8
 subst hr7
 subst hr6
 subst hr5
 subst hr4
 subst hr3
 subst hr2
 subst hr1
 subst hr0
 exact ⟨⟨n0, n1, n2, ⟨⟨n3, n4, n5, n6, n7, n8⟩, ⟨⟨n9, ⟨n10, n11, n12, n13⟩, ⟨n14, n15⟩, ⟨n16, n17⟩, n18⟩, ⟨n19, ⟨n20, n21, n22, n23⟩, ⟨n24, n25⟩, ⟨n26, n27⟩, n28⟩, n29, n30, n31, n32, n33, n34, n35⟩, n36⟩⟩, _, _, _, _, rfl, ⟨b0, b2, ⟨⟨b3, b4, b5, b6, b7, b8⟩, ⟨⟨b9, ⟨b14, b15⟩, ⟨b16, b17⟩, b18⟩, ⟨b19, ⟨b24, b25⟩, ⟨b26, b27⟩, b28⟩, b29, b30, b31, b32, b33, b34, b35⟩, b36⟩⟩⟩
theorem open_ents {cs : List Value} (h : TrodOk enc Tryz.prog W 54 cs) : ∃ l v, cs = [v] ∧ LsAt Ent.rep (heapOf W) l v := open_ls (t := 54) (by decide) (fun cs h => open_ent h) h
theorem open_cm {cs : List Value} (h : TrodOk enc Tryz.prog W 59 cs) : ∃ x, Cm.rep (heapOf W) x cs := by
 replace h := h.leaves
 obtain ⟨c0, r0, hr0, t0, h⟩ := h.cons
 obtain ⟨n0, e0, b0⟩ := t0.i64
 cases e0
 obtain ⟨c1, r1, hr1, t1, h⟩ := h.cons
 obtain ⟨n1, e1, b1⟩ := t1.i64
 cases e1
 obtain ⟨c2, r2, hr2, t2, h⟩ := h.cons
 obtain ⟨n2, e2, b2⟩ := t2.i64
 cases e2
 obtain ⟨c3, r3, hr3, t3, h⟩ := h.cons
 obtain ⟨n3, e3, b3⟩ := t3.i64
 cases e3
 obtain ⟨c4, r4, hr4, t4, h⟩ := h.cons
 obtain ⟨n4, e4, b4⟩ := t4.i64
 cases e4
 obtain ⟨c5, r5, hr5, t5, h⟩ := h.cons
 obtain ⟨n5, e5, b5⟩ := t5.i64
 cases e5
 obtain ⟨c6, r6, hr6, t6, h⟩ := h.cons
 obtain ⟨n6, e6, b6⟩ := t6.i64
 cases e6
 obtain ⟨c7, r7, hr7, t7, h⟩ := h.cons
 obtain ⟨n7, v7, e7, b7⟩ := open_ents t7
 cases e7
 obtain ⟨c8, r8, hr8, t8, h⟩ := h.cons
 obtain ⟨n8, e8, b8⟩ := t8.i64
 cases e8
 obtain ⟨c9, r9, hr9, t9, h⟩ := h.cons
 obtain ⟨n9, e9, b9⟩ := t9.i64
 cases e9
 obtain ⟨c10, r10, hr10, t10, h⟩ := h.cons
 obtain ⟨n10, e10, b10⟩ := t10.i64
 cases e10
 obtain ⟨c11, r11, hr11, t11, h⟩ := h.cons
 obtain ⟨n11, e11, b11⟩ := t11.i64
 cases e11
 obtain ⟨c12, r12, hr12, t12, h⟩ := h.cons
 obtain ⟨n12, e12, b12⟩ := t12.i64
 cases e12
 obtain ⟨c13, r13, hr13, t13, h⟩ := h.cons
 obtain ⟨n13, e13, b13⟩ := t13.i64
 cases e13
 obtain ⟨c14, r14, hr14, t14, h⟩ := h.cons
 obtain ⟨n14, e14, b14⟩ := t14.i64
 cases e14
 obtain ⟨c15, r15, hr15, t15, h⟩ := h.cons
 obtain ⟨n15, e15⟩ := t15.u8
 cases e15
 obtain ⟨c16, r16, hr16, t16, h⟩ := h.cons
 obtain ⟨n16, e16⟩ := t16.u8
 cases e16
 obtain ⟨c17, r17, hr17, t17, h⟩ := h.cons
 obtain ⟨n17, e17⟩ := t17.u8
 cases e17
 obtain ⟨c18, r18, hr18, t18, h⟩ := h.cons
 obtain ⟨n18, e18⟩ := t18.u8
 cases e18
 obtain ⟨c19, r19, hr19, t19, h⟩ := h.cons
 obtain ⟨n19, e19, b19⟩ := t19.i64
 cases e19
 obtain ⟨c20, r20, hr20, t20, h⟩ := h.cons
 obtain ⟨n20, e20, b20⟩ := t20.i64
 cases e20
 obtain ⟨c21, r21, hr21, t21, h⟩ := h.cons
 obtain ⟨n21, e21, b21⟩ := t21.i64
 cases e21
 obtain ⟨c22, r22, hr22, t22, h⟩ := h.cons
 obtain ⟨n22, e22, b22⟩ := t22.i64
 cases e22
 obtain ⟨c23, r23, hr23, t23, h⟩ := h.cons
 obtain ⟨n23, v23, e23, b23⟩ := open_stops t23
 cases e23
 obtain ⟨c24, r24, hr24, t24, h⟩ := h.cons
 obtain ⟨n24, e24, b24⟩ := t24.i64
 cases e24
 obtain ⟨c25, r25, hr25, t25, h⟩ := h.cons
 obtain ⟨n25, e25⟩ := t25.u8
 cases e25
 obtain ⟨c26, r26, hr26, t26, h⟩ := h.cons
 obtain ⟨n26, e26⟩ := t26.u8
 cases e26
 obtain ⟨c27, r27, hr27, t27, h⟩ := h.cons
 obtain ⟨n27, e27⟩ := t27.u8
 cases e27
 obtain ⟨c28, r28, hr28, t28, h⟩ := h.cons
 obtain ⟨n28, e28⟩ := t28.u8
 cases e28
 obtain ⟨c29, r29, hr29, t29, h⟩ := h.cons
 obtain ⟨n29, e29, b29⟩ := t29.i64
 cases e29
 obtain ⟨c30, r30, hr30, t30, h⟩ := h.cons
 obtain ⟨n30, e30, b30⟩ := t30.i64
 cases e30
 obtain ⟨c31, r31, hr31, t31, h⟩ := h.cons
 obtain ⟨n31, e31, b31⟩ := t31.i64
 cases e31
 obtain ⟨c32, r32, hr32, t32, h⟩ := h.cons
 obtain ⟨n32, e32, b32⟩ := t32.i64
 cases e32
 obtain ⟨c33, r33, hr33, t33, h⟩ := h.cons
 obtain ⟨n33, v33, e33, b33⟩ := open_stops t33
 cases e33
 obtain ⟨c34, r34, hr34, t34, h⟩ := h.cons
 obtain ⟨n34, e34, b34⟩ := t34.i64
 cases e34
 obtain ⟨c35, r35, hr35, t35, h⟩ := h.cons
 obtain ⟨n35, e35, b35⟩ := t35.i64
 cases e35
 obtain ⟨c36, r36, hr36, t36, h⟩ := h.cons
 obtain ⟨n36, e36, b36⟩ := t36.i64
 cases e36
 obtain ⟨c37, r37, hr37, t37, h⟩ := h.cons
 obtain ⟨n37, v37, e37, b37⟩ := open_ints t37
 cases e37
 obtain ⟨c38, r38, hr38, t38, h⟩ := h.cons
 obtain ⟨n38, e38, b38⟩ := t38.i64
 cases e38
 obtain ⟨c39, r39, hr39, t39, h⟩ := h.cons
 obtain ⟨n39, e39, b39⟩ := t39.i64
 cases e39
 obtain ⟨c40, r40, hr40, t40, h⟩ := h.cons
 obtain ⟨n40, e40, b40⟩ := t40.i64
 cases e40
 obtain ⟨c41, r41, hr41, t41, h⟩ := h.cons
 obtain ⟨n41, v41, e41, b41⟩ := open_segs t41
 cases e41
 obtain ⟨c42, r42, hr42, t42, h⟩ := h.cons
 obtain ⟨n42, e42, b42⟩ := t42.i64
 cases e42
 obtain ⟨c43, r43, hr43, t43, h⟩ := h.cons
 obtain ⟨n43, e43, b43⟩ := t43.i64
 cases e43
 obtain ⟨c44, r44, hr44, t44, h⟩ := h.cons
 obtain ⟨n44, e44, b44⟩ := t44.i64
 cases e44
 obtain ⟨c45, r45, hr45, t45, h⟩ := h.cons
 obtain ⟨n45, e45, b45⟩ := t45.i64
 cases e45
 obtain ⟨c46, r46, hr46, t46, h⟩ := h.cons
 obtain ⟨n46, e46, b46⟩ := t46.i64
 cases e46
 obtain ⟨c47, r47, hr47, t47, h⟩ := h.cons
 obtain ⟨n47, e47, b47⟩ := t47.i64
 cases e47
 obtain ⟨c48, r48, hr48, t48, h⟩ := h.cons
 obtain ⟨n48, e48, b48⟩ := t48.i64
 cases e48
 obtain ⟨c49, r49, hr49, t49, h⟩ := h.cons
 obtain ⟨n49, e49, b49⟩ := t49.i64
 cases e49
 obtain ⟨c50, r50, hr50, t50, h⟩ := h.cons
 obtain ⟨n50, e50, b50⟩ := t50.i64
 cases e50
 have hn := h.nil
 subst hn
 subst hr50
 subst hr49
 subst hr48
 subst hr47
 subst hr46
 subst hr45
 subst hr44
 subst hr43
 subst hr42
 subst hr41
 subst hr40
 subst hr39
 subst hr38
 subst hr37
 subst hr36
 subst hr35
 subst hr34
 subst hr33
 subst hr32
 subst hr31
 subst hr30
 subst hr29
 subst hr28
 subst hr27
 subst hr26
 subst hr25
 subst hr24
 subst hr23
 subst hr22
 subst hr21
 subst hr20
 subst hr19
 subst hr18
 subst hr17
 subst hr16
 subst hr15
 subst hr14
 subst hr13
 subst hr12
 subst hr11
 subst hr10
 subst hr9
 subst hr8
 subst hr7
 subst hr6
 subst hr5
 subst hr4
 subst hr3
 subst hr2
 subst hr1
 subst hr0
 exact ⟨⟨n0, n1, n2, n3, n4, n5, n6, n7, ⟨⟨n8, n9, n10, n11, n12, n13⟩, ⟨⟨n14, ⟨n15, n16, n17, n18⟩, ⟨n19, n20⟩, ⟨n21, n22⟩, n23⟩, ⟨n24, ⟨n25, n26, n27, n28⟩, ⟨n29, n30⟩, ⟨n31, n32⟩, n33⟩, n34, n35, n36, n37, n38, n39, n40⟩, n41⟩, ⟨n42, ⟨n43, n44⟩, ⟨n45, n46⟩, ⟨n47, n48⟩⟩, ⟨n49, n50⟩⟩, _, _, _, _, _, rfl, ⟨b0, b1, b2, b3, b4, b5, b6, b7, ⟨⟨b8, b9, b10, b11, b12, b13⟩, ⟨⟨b14, ⟨b19, b20⟩, ⟨b21, b22⟩, b23⟩, ⟨b24, ⟨b29, b30⟩, ⟨b31, b32⟩, b33⟩, b34, b35, b36, b37, b38, b39, b40⟩, b41⟩, ⟨b42, ⟨b43, b44⟩, ⟨b45, b46⟩, ⟨b47, b48⟩⟩, ⟨b49, b50⟩⟩⟩
theorem open_cms {cs : List Value} (h : TrodOk enc Tryz.prog W 47 cs) : ∃ l v, cs = [v] ∧ LsAt Cm.rep (heapOf W) l v := open_ls (t := 47) (by decide) (fun cs h => open_cm h) h
end
theorem At.of_cells {W : World} {b off : Nat} {cs : List Value} (h0 : 0 < cs.length) (h : ∀ j v, cs[j]? = some v → W.cell? ⟨b, off + j, none⟩ = some v) : At (heapOf W) b off cs := by
 have h1 := h 0 cs[0] (List.getElem?_eq_getElem h0)
 unfold World.cell? at h1
 cases hb : W.heap[b]? with
 | none => simp [hb] at h1
 | some o => cases o with
  | cells c ty fr =>
   refine ⟨c, ty, fr, hb, fun j v hj => ?_⟩
   have := h j v hj
   simpa [World.cell?, hb] using this
  | _ => simp [hb] at h1
open Go.ChangeShapes Go.WideShapes Go.ChangeAt Go.RowKit Go.Sl Go.Ls Go.Dc
theorem Tryz.own : ownKnob Tryz.prog.godebug = none := by kernel_rfl
theorem Tryz.laidOut : laidOutB Tryz.prog = true := by kernel_rfl
theorem gNeed : Tryz.prog.globalNamed "limner/path.needs" = some 0 := by kernel_rfl
theorem gNeedType : (Tryz.prog.globals[0]?).map (·.type) = some 163 := by kernel_rfl
theorem cellsN : Tryz.prog.cellsOf 163 = 6 := by kernel_rfl
theorem cells3 : Tryz.prog.cellsOf 3 = 1 := by kernel_rfl
theorem undN : Tryz.prog.underlying 163 = some (.array 6 3) := by kernel_rfl
theorem und3 : Tryz.prog.underlying 3 = some (.int .i64) := by kernel_rfl
theorem und4 : Tryz.prog.underlying 4 = some .bool := by kernel_rfl
theorem needAt {W : World} (h : laidMetH Tryz.prog Rows.docAttrsRow.laid W) : NeedAt (heapOf W) := by
 have ht : Lib.TabIs Tryz.prog W "limner/path.needs" .i64 [0, 1, 1, 2, 3, 0] := Lib.tabIs_of_head (rest := []) gNeed gNeedType undN und3 cells3 cellsN h
 refine At.of_cells (by decide) fun j v hj => ?_
 have hl : j < 6 := by
  rcases Nat.lt_or_ge j 6 with h | h
  ·exact h
  ·rw [List.getElem?_eq_none (by simpa using h)] at hj; cases hj
 have hj' : j = 0 ∨ j = 1 ∨ j = 2 ∨ j = 3 ∨ j = 4 ∨ j = 5 := by omega
 rcases hj' with rfl | rfl | rfl | rfl | rfl | rfl <;> (cases hj; exact ht.cell gNeed _ (by decide))
noncomputable def laidWorld (os : Os) : World :=
 { World.holding Tryz.prog os ⟨#[], #[], []⟩ with heap := (World.holding Tryz.prog os ⟨#[], #[], []⟩).heap.modify 0 fun
   | .cells _ t frozen => .cells #[.int .i64 0, .int .i64 1, .int .i64 1, .int .i64 2, .int .i64 3, .int .i64 0] t frozen
   | o => o }
theorem slCmd : Tryz.prog.underlying 47 = some (.slice 59) := by kernel_rfl
theorem some_of {α : Type} {o : Option α} (h : o.isSome = true) : ∃ x, o = some x := by
 cases o with
 | none => cases h
 | some x => exact ⟨x, rfl⟩
open Go.ChangeShapes Go.WideShapes Go.ChangeAt Go.RowKit Go.Joins Go.Sl Go.Ls Go.Tr Go.Dc
theorem docOwn_params : Tryz.f7.params = #[47] := by kernel_rfl
theorem docOwn_contract (H : Type) (enc : TypeId × Value → H) (W : World) (base : Nat) (args : Array Value) (ds gs : List (DataW H)) (before : List MemPlace)
  (hval0 : ∀ (j : Nat) t v, Tryz.f7.params[j]? = some t → args[j]? = some v → Value.okWide Tryz.prog W .any base t v)
  (hW : DataW.Whole enc Tryz.prog Tryz.f7.params.toList Rows.docOwnSpec.vars false W args.toList ds gs before) (hL : laidMetH Tryz.prog Rows.docOwnRow.laid W) :
  Calls Tryz.prog 7 args W fun e W' => ∃ v, e = .returned v ∧ Rows.docOwnSpec.post enc Tryz.prog Tryz.f7 false true false false W args v W' := by
 have hval := hval0
 have hW' := hW
 obtain ⟨p, q, hA0, hV, rfl, hfz, hnd⟩ := hW
 have hA : DataW.TrodAll enc Tryz.prog W 0 (fun _ => true) true Tryz.f7.params.toList args.toList ds p := hA0
 rw [docOwn_params] at hA hval
 obtain ⟨v0, d0, rfl, rfl, h0⟩ := trodAll_one hA
 obtain ⟨rfl, rfl⟩ := trodVars_none hV
 have hlt0 : ∀ x ∈ p, x.block < W.heap.size := fun x hx => hW'.lt x (by simp [hx])
 clear hA0 hval0
 simp only [List.append_nil] at hW'
 obtain ⟨a0, len0, cap0, rfl⟩ := okWide_slice (t := 47) slCmd (hval 0 47 v0 rfl rfl)
 obtain ⟨x0, w0, e0, hx0⟩ := open_cms (TrodOk.of h0)
 cases e0
 have walk := dOwn x0 _ (heapOf W) (needAt hL) hx0
 refine (Ctr.calls walk).mono fun e W' ⟨v, I', L', he, hb, hR⟩ => ?_
 obtain ⟨_, rfl⟩ := hR
 subst he
 have h9 := trodAll_mk1 (Below.trod Tryz.laidOut (by kernel_rfl) (of_decide_eq_true (by kernel_rfl)) h0 hb hlt0)
 exact ⟨_, rfl, _, _, _, [], _, [], hW', trodAll_mk1 (shut_bool und4 true), h9, rfl, hb.frame _, fun h => by cases h⟩
theorem docOwn_laid (os : Os) : laidMet Tryz.prog Rows.docOwnRow.laid ((laidWorld os).forCall (fun _ _ => 0) ⟨#[], #[.slice none 0 0], []⟩).memory :=
 laidMet_of_run' 8 (by kernel_rfl) (by kernel_rfl)
set_option maxRecDepth 100000 in
theorem docOwn_lifted (os : Os) (started : os.Started) (H : Type) (enc : TypeId × Value → H) (F : Stop.Interp) :
  ReturnsInHanded {} Tryz.checked os 7 .any ((OpenSpec.ofChange Rows.docOwnSpec).preRow enc Tryz.prog Tryz.f7 Rows.docOwnRow.domain false Rows.docOwnRow.laid) (((OpenSpec.ofChange Rows.docOwnSpec).at F).post enc Tryz.prog Tryz.f7 false true false false) := by
 obtain ⟨x, hx⟩ := some_of (o := DataW.whole enc Tryz.prog ((laidWorld os).forCall (fun _ _ => 0) ⟨#[], #[.slice none 0 0], []⟩).memory Tryz.f7.params.toList Rows.docOwnSpec.vars false (#[.slice none 0 0] : Array Value).toList 8) (by kernel_rfl)
 refine returnsInHanded_of_row (C := Tryz.checked) (s := OpenSpec.ofChange Rows.docOwnSpec) Tryz.own started (by kernel_rfl) Tryz.func7
  (witness_row_at (enc := enc) (C := Tryz.checked) false (laidWorld os) #[.slice none 0 0] rfl (by kernel_rfl) (by kernel_rfl) (by kernel_rfl)
   (OpenSpec.preRow_of_cond 8 hx (by kernel_rfl) (fun k hk => by cases hk) (by kernel_rfl) (docOwn_laid os))) ?_
 intro W base args ds gs before hval hW _ _ _ hL _ _
 exact docOwn_contract H enc W base args ds gs before hval hW hL
theorem docOwn_said : Rows.DocOwnSaid :=
 OpenClaim.holds_of_cond 7 Tryz.f7 rfl rfl rfl rfl rfl rfl rfl ⟨rfl, rfl, rfl, rfl, rfl⟩ rfl rfl rfl rfl rfl (by kernel_rfl) Tryz.func7 (by kernel_rfl)
  (of_decide_eq_true (by kernel_rfl)) (by unfold Func.isWrapper; first | (rw [if_pos (by decide +kernel)]; kernel_rfl) | (rw [if_neg (by decide +kernel)]; exact ⟨rfl, rfl⟩))
  (fun os started H enc _ F => by rw [OpenClaim.pre_eq_preRow]; exact docOwn_lifted os started H enc F)
theorem docOwn_plain (f : FuncId) (fn : Func) (hf : Tryz.pinned.checked.prog.funcNamed "limner/limnerlaw18.DocOwn" = some f) (hfn : Tryz.pinned.checked.prog.funcs[f]? = some fn) :
  true = Tryz.pinned.checked.prog.looks [] ∧ ∀ (j : Nat) t, fn.params[j]? = some t → Tryz.pinned.checked.prog.wantsStandIn t = false := by
 obtain rfl : f = 7 := Option.some.inj ((show Tryz.prog.funcNamed "limner/limnerlaw18.DocOwn" = some 7 by kernel_rfl).symm.trans hf) |>.symm
 obtain rfl : fn = Tryz.f7 := (Option.some.inj (Tryz.func7.symm.trans hfn)).symm
 refine ⟨by kernel_rfl, fun j t ht => ?_⟩
 rw [docOwn_params] at ht
 have h9 : t = 47 := by simpa using Array.mem_of_getElem? ht
 subst h9
 exact (show Tryz.prog.wantsStandIn 47 = false by kernel_rfl)
theorem docOwn_card : Rows.DocOwnCardSaid :=
 Claim7.holds_tied_plain_at .later [] _ _ _ _ docOwn_said (fun _ h => by cases h) (by kernel_rfl) (fun _ h => by cases h) docOwn_row_tie rfl ⟨rfl, rfl⟩ (by kernel_rfl) rfl docOwn_plain (by kernel_rfl)
#print axioms docOwn_card
end Go.Proofs.YtggcpoleklcmkaaGreatDoor
