/-
 Drawings: arguments that read as data are commands, entries, bytes.
-/
import Derived.Test.YtggcpoleklcmkaaGreatDoorX8
import Derived.Test.YtggcpoleklcmkaaGreatDoorX4
import Derived.Test.YtggcpoleklcmkaaGreatDoorX2
import Derived.Lib.LaidTab
import Derived.Test.YtggcpoleklcmkaaGreatDoorX14
import Derived.Test.YtggcpoleklcmkaaGreatDoorX3
import Derived.Test.YtggcpoleklcmkaaGreatDoorX9
import Derived.Test.YtggcpoleklcmkaaGreatDoorCards
import Derived.Test.YtggcpoleklcmkaaGreatDoorTie
import Derived.ProofKit
import Derived.Carry
import Derived.Lib.SmallJoins
import Derived.Deep.DeepHandedRow
set_option linter.unusedVariables false
set_option linter.unusedSimpArgs false
set_option maxRecDepth 100000
set_option maxHeartbeats 8000000
namespace Go.Proofs.YtggcpoleklcmkaaGreatDoor
open Go.Sl Go.Ls Go.Dc
instance : LvK Tryz.prog 203 (3 :: 5 :: 5 :: 5 :: 5 :: []) := ⟨by kernel_rfl⟩
instance : LvK Tryz.prog 57 (3 :: 3 :: 3 :: 3 :: 3 :: 3 :: 3 :: []) := ⟨by kernel_rfl⟩
instance : LvK Tryz.prog 69 (3 :: 4 :: 3 :: 3 :: 3 :: 3 :: 3 :: 3 :: 3 :: 3 :: 5 :: 5 :: 5 :: 5 :: 3 :: 3 :: 3 :: 3 :: 28 :: 3 :: 5 :: 5 :: 5 :: 5 :: 3 :: 3 :: 3 :: 3 :: 28 :: 3 :: 3 :: 3 :: 31 :: 3 :: 3 :: 3 :: 36 :: []) := ⟨by kernel_rfl⟩
instance : LvK Tryz.prog 59 (3 :: 3 :: 3 :: 3 :: 3 :: 3 :: 3 :: 54 :: 3 :: 3 :: 3 :: 3 :: 3 :: 3 :: 3 :: 5 :: 5 :: 5 :: 5 :: 3 :: 3 :: 3 :: 3 :: 28 :: 3 :: 5 :: 5 :: 5 :: 5 :: 3 :: 3 :: 3 :: 3 :: 28 :: 3 :: 3 :: 3 :: 31 :: 3 :: 3 :: 3 :: 36 :: 3 :: 3 :: 3 :: 3 :: 3 :: 3 :: 3 :: 3 :: 3 :: []) := ⟨by kernel_rfl⟩
theorem all2_map {α β γ : Type} {R : β → γ → Prop} {X : α → β} {Y : α → γ} : ∀ (l : List α), (∀ i ∈ l, R (X i) (Y i)) → All2 R (l.map X) (l.map Y)
 | [], _ => trivial
 | a :: l, h => ⟨h a (List.mem_cons_self ..), all2_map l fun i hi => h i (List.mem_cons_of_mem _ hi)⟩
section
variable {H : Type} {enc : TypeId × Value → H} {W : World}
theorem open_ls {α : Type} {R : Rep α} {t e sz : Nat} [hk : SlK Tryz.prog t e sz] (hsz : 0 < sz) (hel : ∀ cs, TrodOk enc Tryz.prog W e cs → ∃ x, R (heapOf W) x cs) {cs : List Value} (h : TrodOk enc Tryz.prog W t cs) : ∃ l v, cs = [v] ∧ LsAt R (heapOf W) l v := by
 obtain ⟨a, len, cap, rfl, hc, h0 | ⟨b, off, rfl, hC⟩⟩ := h.slice hk.is hsz
 ·subst h0
  exact ⟨[], _, rfl, [], ⟨a, cap, rfl, hc, .inl ⟨rfl, rfl⟩⟩, trivial⟩
 ·rcases Nat.eq_zero_or_pos len with h0 | h0
  ·subst h0
   exact ⟨[], _, rfl, [], ⟨_, cap, rfl, hc, .inl ⟨rfl, rfl⟩⟩, trivial⟩
  obtain ⟨C, hC⟩ := Go.Deep.choose_lt (p := fun i C => C.length = sz ∧ At (heapOf W) b (off + i * sz) C ∧ TrodOk enc Tryz.prog W e C) hC
  haveI : Inhabited α := ⟨(hel _ (hC 0 h0).2.2).choose⟩
  obtain ⟨X, hX⟩ := Go.Deep.choose_lt (p := fun i x => R (heapOf W) x (C i)) fun i hi => hel _ (hC i hi).2.2
  refine ⟨(List.range len).map X, _, rfl, (List.range len).map C, ⟨_, cap, by simp, by simpa using hc, .inr ⟨b, off, rfl, At.join len off h0 fun i hi => ⟨(hC i hi).1, (hC i hi).2.1⟩⟩⟩, all2_map _ fun i hi => hX i (List.mem_range.1 hi)⟩
theorem open_int {cs : List Value} (h : TrodOk enc Tryz.prog W 3 cs) : ∃ n, Ls.Int.rep (heapOf W) n cs := by
 obtain ⟨n, rfl, h0, h1⟩ := h.i64
 exact ⟨n, rfl, h0, h1⟩
theorem open_stp {cs : List Value} (h : TrodOk enc Tryz.prog W 203 cs) : ∃ x, Stp.rep (heapOf W) x cs := by
 replace h := h.leaves
 obtain ⟨c0, r0, hr0, t0, h⟩ := h.cons
 obtain ⟨n0, e0, b0⟩ := t0.i64
 cases e0
 obtain ⟨c1, r1, hr1, t1, h⟩ := h.cons
 obtain ⟨n1, e1⟩ := t1.u8
 cases e1
 obtain ⟨c2, r2, hr2, t2, h⟩ := h.cons
 obtain ⟨n2, e2⟩ := t2.u8
 cases e2
 obtain ⟨c3, r3, hr3, t3, h⟩ := h.cons
 obtain ⟨n3, e3⟩ := t3.u8
 cases e3
 obtain ⟨c4, r4, hr4, t4, h⟩ := h.cons
 obtain ⟨n4, e4⟩ := t4.u8
 cases e4
 have hn := h.nil
 subst hn
 subst hr4
 subst hr3
 subst hr2
 subst hr1
 subst hr0
 exact ⟨⟨n0, ⟨n1, n2, n3, n4⟩⟩, rfl, b0⟩
theorem open_sg {cs : List Value} (h : TrodOk enc Tryz.prog W 57 cs) : ∃ x, Sg.rep (heapOf W) x cs := by
 replace h := h.leaves
 obtain ⟨c0, r0, hr0, t0, h⟩ := h.cons
 obtain ⟨n0, e0, b0⟩ := t0.i64
 cases e0
 obtain ⟨c1, r1, hr1, t1, h⟩ := h.cons
 obtain ⟨n1, e1, b1⟩ := t1.i64
 cases e1
 obtain ⟨c2, r2, hr2, t2, h⟩ := h.cons
 obtain ⟨n2, e2, b2⟩ := t2.i64
 cases e2
 obtain ⟨c3, r3, hr3, t3, h⟩ := h.cons
 obtain ⟨n3, e3, b3⟩ := t3.i64
 cases e3
 obtain ⟨c4, r4, hr4, t4, h⟩ := h.cons
 obtain ⟨n4, e4, b4⟩ := t4.i64
 cases e4
 obtain ⟨c5, r5, hr5, t5, h⟩ := h.cons
 obtain ⟨n5, e5, b5⟩ := t5.i64
 cases e5
 obtain ⟨c6, r6, hr6, t6, h⟩ := h.cons
 obtain ⟨n6, e6, b6⟩ := t6.i64
 cases e6
 have hn := h.nil
 subst hn
 subst hr6
 subst hr5
 subst hr4
 subst hr3
 subst hr2
 subst hr1
 subst hr0
 exact ⟨⟨n0, ⟨n1, n2⟩, ⟨n3, n4⟩, ⟨n5, n6⟩⟩, rfl, ⟨b0, ⟨b1, b2⟩, ⟨b3, b4⟩, ⟨b5, b6⟩⟩⟩
theorem open_stops {cs : List Value} (h : TrodOk enc Tryz.prog W 28 cs) : ∃ l v, cs = [v] ∧ LsAt Stp.rep (heapOf W) l v := open_ls (t := 28) (by decide) (fun cs h => open_stp h) h
theorem open_ints {cs : List Value} (h : TrodOk enc Tryz.prog W 31 cs) : ∃ l v, cs = [v] ∧ LsAt Ls.Int.rep (heapOf W) l v := open_ls (t := 31) (by decide) (fun cs h => open_int h) h
theorem open_segs {cs : List Value} (h : TrodOk enc Tryz.prog W 36 cs) : ∃ l v, cs = [v] ∧ LsAt Sg.rep (heapOf W) l v := open_ls (t := 36) (by decide) (fun cs h => open_sg h) h
theorem open_ent {cs : List Value} (h : TrodOk enc Tryz.prog W 69 cs) : ∃ x, Ent.rep (heapOf W) x cs := by
 replace h := h.leaves
 obtain ⟨c0, r0, hr0, t0, h⟩ := h.cons
 obtain ⟨n0, e0, b0⟩ := t0.i64
 cases e0
 obtain ⟨c1, r1, hr1, t1, h⟩ := h.cons
 obtain ⟨n1, e1⟩ := t1.b
 cases e1
 obtain ⟨c2, r2, hr2, t2, h⟩ := h.cons
 obtain ⟨n2, e2, b2⟩ := t2.i64
 cases e2
 obtain ⟨c3, r3, hr3, t3, h⟩ := h.cons
 obtain ⟨n3, e3, b3⟩ := t3.i64
 cases e3
 obtain ⟨c4, r4, hr4, t4, h⟩ := h.cons
 obtain ⟨n4, e4, b4⟩ := t4.i64
 cases e4
 obtain ⟨c5, r5, hr5, t5, h⟩ := h.cons
 obtain ⟨n5, e5, b5⟩ := t5.i64
 cases e5
 obtain ⟨c6, r6, hr6, t6, h⟩ := h.cons
 obtain ⟨n6, e6, b6⟩ := t6.i64
 cases e6
 obtain ⟨c7, r7, hr7, t7, h⟩ := h.cons
 obtain ⟨n7, e7, b7⟩ := t7.i64
 cases e7
 obtain ⟨c8, r8, hr8, t8, h⟩ := h.cons
 obtain ⟨n8, e8, b8⟩ := t8.i64
 cases e8
 obtain ⟨c9, r9, hr9, t9, h⟩ := h.cons
 obtain ⟨n9, e9, b9⟩ := t9.i64
 cases e9
 obtain ⟨c10, r10, hr10, t10, h⟩ := h.cons
 obtain ⟨n10, e10⟩ := t10.u8
 cases e10
 obtain ⟨c11, r11, hr11, t11, h⟩ := h.cons
 obtain ⟨n11, e11⟩ := t11.u8
 cases e11
 obtain ⟨c12, r12, hr12, t12, h⟩ := h.cons
 obtain ⟨n12, e12⟩ := t12.u8
 cases e12
 obtain ⟨c13, r13, hr13, t13, h⟩ := h.cons
 obtain ⟨n13, e13⟩ := t13.u8
 cases e13
 obtain ⟨c14, r14, hr14, t14, h⟩ := h.cons
 obtain ⟨n14, e14, b14⟩ := t14.i64
 cases e14
 obtain ⟨c15, r15, hr15, t15, h⟩ := h.cons
 obtain ⟨n15, e15, b15⟩ := t15.i64
 cases e15
 obtain ⟨c16, r16, hr16, t16, h⟩ := h.cons
 obtain ⟨n16, e16, b16⟩ := t16.i64
 cases e16
 obtain ⟨c17, r17, hr17, t17, h⟩ := h.cons
 obtain ⟨n17, e17, b17⟩ := t17.i64
 cases e17
 obtain ⟨c18, r18, hr18, t18, h⟩ := h.cons
 obtain ⟨n18, v18, e18, b18⟩ := open_stops t18
 cases e18
 obtain ⟨c19, r19, hr19, t19, h⟩ := h.cons
 obtain ⟨n19, e19, b19⟩ := t19.i64
 cases e19
 obtain ⟨c20, r20, hr20, t20, h⟩ := h.cons
 obtain ⟨n20, e20⟩ := t20.u8
 cases e20
 obtain ⟨c21, r21, hr21, t21, h⟩ := h.cons
 obtain ⟨n21, e21⟩ := t21.u8
 cases e21
 obtain ⟨c22, r22, hr22, t22, h⟩ := h.cons
 obtain ⟨n22, e22⟩ := t22.u8
 cases e22
 obtain ⟨c23, r23, hr23, t23, h⟩ := h.cons
 obtain ⟨n23, e23⟩ := t23.u8
 cases e23
 obtain ⟨c24, r24, hr24, t24, h⟩ := h.cons
 obtain ⟨n24, e24, b24⟩ := t24.i64
 cases e24
 obtain ⟨c25, r25, hr25, t25, h⟩ := h.cons
 obtain ⟨n25, e25, b25⟩ := t25.i64
 cases e25
 obtain ⟨c26, r26, hr26, t26, h⟩ := h.cons
 obtain ⟨n26, e26, b26⟩ := t26.i64
 cases e26
 obtain ⟨c27, r27, hr27, t27, h⟩ := h.cons
 obtain ⟨n27, e27, b27⟩ := t27.i64
 cases e27
 obtain ⟨c28, r28, hr28, t28, h⟩ := h.cons
 obtain ⟨n28, v28, e28, b28⟩ := open_stops t28
 cases e28
 obtain ⟨c29, r29, hr29, t29, h⟩ := h.cons
 obtain ⟨n29, e29, b29⟩ := t29.i64
 cases e29
 obtain ⟨c30, r30, hr30, t30, h⟩ := h.cons
 obtain ⟨n30, e30, b30⟩ := t30.i64
 cases e30
 obtain ⟨c31, r31, hr31, t31, h⟩ := h.cons
 obtain ⟨n31, e31, b31⟩ := t31.i64
 cases e31
 obtain ⟨c32, r32, hr32, t32, h⟩ := h.cons
 obtain ⟨n32, v32, e32, b32⟩ := open_ints t32
 cases e32
 obtain ⟨c33, r33, hr33, t33, h⟩ := h.cons
 obtain ⟨n33, e33, b33⟩ := t33.i64
 cases e33
 obtain ⟨c34, r34, hr34, t34, h⟩ := h.cons
 obtain ⟨n34, e34, b34⟩ := t34.i64
 cases e34
 obtain ⟨c35, r35, hr35, t35, h⟩ := h.cons
 obtain ⟨n35, e35, b35⟩ := t35.i64
 cases e35
 obtain ⟨c36, r36, hr36, t36, h⟩ := h.cons
 obtain ⟨n36, v36, e36, b36⟩ := open_segs t36
 cases e36
 have hn := h.nil
 subst hn
 subst hr36
 subst hr35
 subst hr34
 subst hr33
 subst hr32
 subst hr31
 subst hr30
 subst hr29
 subst hr28
 subst hr27
 subst hr26
 subst hr25
 subst hr24
 subst hr23
 subst hr22
 subst hr21
 subst hr20
 subst hr19
 subst hr18
 subst hr17
 subst hr16
 subst hr15
 subst hr14
 subst hr13
 subst hr12
 subst hr11
 subst hr10
 subst hr9
 subst hr8
 subst hr7
 subst hr6
 subst hr5
 subst hr4
 subst hr3
 subst hr2
 subst hr1
 subst hr0
 exact ⟨⟨n0, n1, n2, ⟨⟨n3, n4, n5, n6, n7, n8⟩, ⟨⟨n9, ⟨n10, n11, n12, n13⟩, ⟨n14, n15⟩, ⟨n16, n17⟩, n18⟩, ⟨n19, ⟨n20, n21, n22, n23⟩, ⟨n24, n25⟩, ⟨n26, n27⟩, n28⟩, n29, n30, n31, n32, n33, n34, n35⟩, n36⟩⟩, _, _, _, _, rfl, ⟨b0, b2, ⟨⟨b3, b4, b5, b6, b7, b8⟩, ⟨⟨b9, ⟨b14, b15⟩, ⟨b16, b17⟩, b18⟩, ⟨b19, ⟨b24, b25⟩, ⟨b26, b27⟩, b28⟩, b29, b30, b31, b32, b33, b34, b35⟩, b36⟩⟩⟩
theorem open_ents {cs : List Value} (h : TrodOk enc Tryz.prog W 54 cs) : ∃ l v, cs = [v] ∧ LsAt Ent.rep (heapOf W) l v := open_ls (t := 54) (by decide) (fun cs h => open_ent h) h
theorem open_cm {cs : List Value} (h : TrodOk enc Tryz.prog W 59 cs) : ∃ x, Cm.rep (heapOf W) x cs := by
 replace h := h.leaves
 obtain ⟨c0, r0, hr0, t0, h⟩ := h.cons
 obtain ⟨n0, e0, b0⟩ := t0.i64
 cases e0
 obtain ⟨c1, r1, hr1, t1, h⟩ := h.cons
 obtain ⟨n1, e1, b1⟩ := t1.i64
 cases e1
 obtain ⟨c2, r2, hr2, t2, h⟩ := h.cons
 obtain ⟨n2, e2, b2⟩ := t2.i64
 cases e2
 obtain ⟨c3, r3, hr3, t3, h⟩ := h.cons
 obtain ⟨n3, e3, b3⟩ := t3.i64
 cases e3
 obtain ⟨c4, r4, hr4, t4, h⟩ := h.cons
 obtain ⟨n4, e4, b4⟩ := t4.i64
 cases e4
 obtain ⟨c5, r5, hr5, t5, h⟩ := h.cons
 obtain ⟨n5, e5, b5⟩ := t5.i64
 cases e5
 obtain ⟨c6, r6, hr6, t6, h⟩ := h.cons
 obtain ⟨n6, e6, b6⟩ := t6.i64
 cases e6
 obtain ⟨c7, r7, hr7, t7, h⟩ := h.cons
 obtain ⟨n7, v7, e7, b7⟩ := open_ents t7
 cases e7
 obtain ⟨c8, r8, hr8, t8, h⟩ := h.cons
 obtain ⟨n8, e8, b8⟩ := t8.i64
 cases e8
 obtain ⟨c9, r9, hr9, t9, h⟩ := h.cons
 obtain ⟨n9, e9, b9⟩ := t9.i64
 cases e9
 obtain ⟨c10, r10, hr10, t10, h⟩ := h.cons
 obtain ⟨n10, e10, b10⟩ := t10.i64
 cases e10
 obtain ⟨c11, r11, hr11, t11, h⟩ := h.cons
 obtain ⟨n11, e11, b11⟩ := t11.i64
 cases e11
 obtain ⟨c12, r12, hr12, t12, h⟩ := h.cons
 obtain ⟨n12, e12, b12⟩ := t12.i64
 cases e12
 obtain ⟨c13, r13, hr13, t13, h⟩ := h.cons
 obtain ⟨n13, e13, b13⟩ := t13.i64
 cases e13
 obtain ⟨c14, r14, hr14, t14, h⟩ := h.cons
 obtain ⟨n14, e14, b14⟩ := t14.i64
 cases e14
 obtain ⟨c15, r15, hr15, t15, h⟩ := h.cons
 obtain ⟨n15, e15⟩ := t15.u8
 cases e15
 obtain ⟨c16, r16, hr16, t16, h⟩ := h.cons
 obtain ⟨n16, e16⟩ := t16.u8
 cases e16
 obtain ⟨c17, r17, hr17, t17, h⟩ := h.cons
 obtain ⟨n17, e17⟩ := t17.u8
 cases e17
 obtain ⟨c18, r18, hr18, t18, h⟩ := h.cons
 obtain ⟨n18, e18⟩ := t18.u8
 cases e18
 obtain ⟨c19, r19, hr19, t19, h⟩ := h.cons
 obtain ⟨n19, e19, b19⟩ := t19.i64
 cases e19
 obtain ⟨c20, r20, hr20, t20, h⟩ := h.cons
 obtain ⟨n20, e20, b20⟩ := t20.i64
 cases e20
 obtain ⟨c21, r21, hr21, t21, h⟩ := h.cons
 obtain ⟨n21, e21, b21⟩ := t21.i64
 cases e21
 obtain ⟨c22, r22, hr22, t22, h⟩ := h.cons
 obtain ⟨n22, e22, b22⟩ := t22.i64
 cases e22
 obtain ⟨c23, r23, hr23, t23, h⟩ := h.cons
 obtain ⟨n23, v23, e23, b23⟩ := open_stops t23
 cases e23
 obtain ⟨c24, r24, hr24, t24, h⟩ := h.cons
 obtain ⟨n24, e24, b24⟩ := t24.i64
 cases e24
 obtain ⟨c25, r25, hr25, t25, h⟩ := h.cons
 obtain ⟨n25, e25⟩ := t25.u8
 cases e25
 obtain ⟨c26, r26, hr26, t26, h⟩ := h.cons
 obtain ⟨n26, e26⟩ := t26.u8
 cases e26
 obtain ⟨c27, r27, hr27, t27, h⟩ := h.cons
 obtain ⟨n27, e27⟩ := t27.u8
 cases e27
 obtain ⟨c28, r28, hr28, t28, h⟩ := h.cons
 obtain ⟨n28, e28⟩ := t28.u8
 cases e28
 obtain ⟨c29, r29, hr29, t29, h⟩ := h.cons
 obtain ⟨n29, e29, b29⟩ := t29.i64
 cases e29
 obtain ⟨c30, r30, hr30, t30, h⟩ := h.cons
 obtain ⟨n30, e30, b30⟩ := t30.i64
 cases e30
 obtain ⟨c31, r31, hr31, t31, h⟩ := h.cons
 obtain ⟨n31, e31, b31⟩ := t31.i64
 cases e31
 obtain ⟨c32, r32, hr32, t32, h⟩ := h.cons
 obtain ⟨n32, e32, b32⟩ := t32.i64
 cases e32
 obtain ⟨c33, r33, hr33, t33, h⟩ := h.cons
 obtain ⟨n33, v33, e33, b33⟩ := open_stops t33
 cases e33
 obtain ⟨c34, r34, hr34, t34, h⟩ := h.cons
 obtain ⟨n34, e34, b34⟩ := t34.i64
 cases e34
 obtain ⟨c35, r35, hr35, t35, h⟩ := h.cons
 obtain ⟨n35, e35, b35⟩ := t35.i64
 cases e35
 obtain ⟨c36, r36, hr36, t36, h⟩ := h.cons
 obtain ⟨n36, e36, b36⟩ := t36.i64
 cases e36
 obtain ⟨c37, r37, hr37, t37, h⟩ := h.cons
 obtain ⟨n37, v37, e37, b37⟩ := open_ints t37
 cases e37
 obtain ⟨c38, r38, hr38, t38, h⟩ := h.cons
 obtain ⟨n38, e38, b38⟩ := t38.i64
 cases e38
 obtain ⟨c39, r39, hr39, t39, h⟩ := h.cons
 obtain ⟨n39, e39, b39⟩ := t39.i64
 cases e39
 obtain ⟨c40, r40, hr40, t40, h⟩ := h.cons
 obtain ⟨n40, e40, b40⟩ := t40.i64
 cases e40
 obtain ⟨c41, r41, hr41, t41, h⟩ := h.cons
 obtain ⟨n41, v41, e41, b41⟩ := open_segs t41
 cases e41
 obtain ⟨c42, r42, hr42, t42, h⟩ := h.cons
 obtain ⟨n42, e42, b42⟩ := t42.i64
 cases e42
 obtain ⟨c43, r43, hr43, t43, h⟩ := h.cons
 obtain ⟨n43, e43, b43⟩ := t43.i64
 cases e43
 obtain ⟨c44, r44, hr44, t44, h⟩ := h.cons
 obtain ⟨n44, e44, b44⟩ := t44.i64
 cases e44
 obtain ⟨c45, r45, hr45, t45, h⟩ := h.cons
 obtain ⟨n45, e45, b45⟩ := t45.i64
 cases e45
 obtain ⟨c46, r46, hr46, t46, h⟩ := h.cons
 obtain ⟨n46, e46, b46⟩ := t46.i64
 cases e46
 obtain ⟨c47, r47, hr47, t47, h⟩ := h.cons
 obtain ⟨n47, e47, b47⟩ := t47.i64
 cases e47
 obtain ⟨c48, r48, hr48, t48, h⟩ := h.cons
 obtain ⟨n48, e48, b48⟩ := t48.i64
 cases e48
 obtain ⟨c49, r49, hr49, t49, h⟩ := h.cons
 obtain ⟨n49, e49, b49⟩ := t49.i64
 cases e49
 obtain ⟨c50, r50, hr50, t50, h⟩ := h.cons
 obtain ⟨n50, e50, b50⟩ := t50.i64
 cases e50
 have hn := h.nil
 subst hn
 subst hr50
 subst hr49
 subst hr48
 subst hr47
 subst hr46
 subst hr45
 subst hr44
 subst hr43
 subst hr42
 subst hr41
 subst hr40
 subst hr39
 subst hr38
 subst hr37
 subst hr36
 subst hr35
 subst hr34
 subst hr33
 subst hr32
 subst hr31
 subst hr30
 subst hr29
 subst hr28
 subst hr27
 subst hr26
 subst hr25
 subst hr24
 subst hr23
 subst hr22
 subst hr21
 subst hr20
 subst hr19
 subst hr18
 subst hr17
 subst hr16
 subst hr15
 subst hr14
 subst hr13
 subst hr12
 subst hr11
 subst hr10
 subst hr9
 subst hr8
 subst hr7
 subst hr6
 subst hr5
 subst hr4
 subst hr3
 subst hr2
 subst hr1
 subst hr0
 exact ⟨⟨n0, n1, n2, n3, n4, n5, n6, n7, ⟨⟨n8, n9, n10, n11, n12, n13⟩, ⟨⟨n14, ⟨n15, n16, n17, n18⟩, ⟨n19, n20⟩, ⟨n21, n22⟩, n23⟩, ⟨n24, ⟨n25, n26, n27, n28⟩, ⟨n29, n30⟩, ⟨n31, n32⟩, n33⟩, n34, n35, n36, n37, n38, n39, n40⟩, n41⟩, ⟨n42, ⟨n43, n44⟩, ⟨n45, n46⟩, ⟨n47, n48⟩⟩, ⟨n49, n50⟩⟩, _, _, _, _, _, rfl, ⟨b0, b1, b2, b3, b4, b5, b6, b7, ⟨⟨b8, b9, b10, b11, b12, b13⟩, ⟨⟨b14, ⟨b19, b20⟩, ⟨b21, b22⟩, b23⟩, ⟨b24, ⟨b29, b30⟩, ⟨b31, b32⟩, b33⟩, b34, b35, b36, b37, b38, b39, b40⟩, b41⟩, ⟨b42, ⟨b43, b44⟩, ⟨b45, b46⟩, ⟨b47, b48⟩⟩, ⟨b49, b50⟩⟩⟩
theorem open_cms {cs : List Value} (h : TrodOk enc Tryz.prog W 47 cs) : ∃ l v, cs = [v] ∧ LsAt Cm.rep (heapOf W) l v := open_ls (t := 47) (by decide) (fun cs h => open_cm h) h
end
theorem At.of_cells {W : World} {b off : Nat} {cs : List Value} (h0 : 0 < cs.length) (h : ∀ j v, cs[j]? = some v → W.cell? ⟨b, off + j, none⟩ = some v) : At (heapOf W) b off cs := by
 have h1 := h 0 cs[0] (List.getElem?_eq_getElem h0)
 unfold World.cell? at h1
 cases hb : W.heap[b]? with
 | none => simp [hb] at h1
 | some o => cases o with
  | cells c ty fr =>
   refine ⟨c, ty, fr, hb, fun j v hj => ?_⟩
   have := h j v hj
   simpa [World.cell?, hb] using this
  | _ => simp [hb] at h1
end Go.Proofs.YtggcpoleklcmkaaGreatDoor

namespace Go.Hi
open Go.Sl Go.Ls Go.Dc
structure Ac where
 kind : Int
 cms : List Cm
def Ac.rep : Rep Ac := fun I a cs => ∃ v, cs = [vi a.kind, v] ∧ I64 a.kind ∧ LsAt Cm.rep I a.cms v
instance : RepMono Ac.rep := ⟨fun h hI => by
 obtain ⟨v, h, hk, hl⟩ := h
 exact ⟨v, h, hk, hl.mono hI⟩⟩
instance : RepLen Ac.rep 2 := ⟨fun ⟨v, h, _⟩ => by rw [h]; rfl⟩
end Go.Hi
namespace Go.Proofs.YtggcpoleklcmkaaGreatDoor
open Go.Sl Go.Ls Go.Dc Go.Hi
instance : LvK Tryz.prog 108 (3 :: 47 :: []) := ⟨by kernel_rfl⟩
section
variable {H : Type} {enc : TypeId × Value → H} {W : World}
theorem open_act {cs : List Value} (h : TrodOk enc Tryz.prog W 108 cs) : ∃ x, Ac.rep (heapOf W) x cs := by
 replace h := h.leaves
 obtain ⟨c0, r0, hr0, t0, h⟩ := h.cons
 obtain ⟨n0, e0, b0⟩ := t0.i64
 cases e0
 obtain ⟨c1, r1, hr1, t1, h⟩ := h.cons
 obtain ⟨n1, v1, e1, b1⟩ := open_cms t1
 cases e1
 have hn := h.nil
 subst hn
 subst hr1
 subst hr0
 exact ⟨⟨n0, n1⟩, _, rfl, b0, b1⟩
theorem open_acts {cs : List Value} (h : TrodOk enc Tryz.prog W 98 cs) : ∃ l v, cs = [v] ∧ LsAt Ac.rep (heapOf W) l v := open_ls (t := 98) (by decide) (fun cs h => open_act h) h
end
theorem slAct : Tryz.prog.underlying 98 = some (.slice 108) := by kernel_rfl
end Go.Proofs.YtggcpoleklcmkaaGreatDoor

namespace Go.Hi
open Go.Sl Go.Ls Go.Tr Go.Dc
def Ac.small (a : Ac) : Prop := a.cms.length ≤ 70 ∧ ∀ c ∈ a.cms, small20 c
def smallA (l : List Ac) (m : Int) : Prop := (∀ a ∈ l, a.small) ∧ (l.length : Int) ≤ m
end Go.Hi
namespace Go.Proofs.YtggcpoleklcmkaaGreatDoor
open Go.Sl Go.Ls Go.Tr Go.Dc Go.Hi
attribute [local irreducible] WC WL WX WK WA WAK Val Ctr RunRes ResIs Rd At sl box pt Exit.then Exit.inBlock bodyPost Code.wp wpList
theorem smallAttr20 (a : Atr) (t u d q : Value) (I : Mem) (ha : a.at_ I t u d q) :
  Ctr Tryz.prog 87 [.agg (a.cs t u d q).toArray] I [] (Still I (EqP a.small)) := by
 obtain ⟨a1, c1, a2, c2, a3, c3, a4, c4, rfl, rfl, rfl, rfl⟩ := ha.sl
 refine Ctr.intro Tryz.func87 rfl rfl rfl fun E F => ?_
 refine jS (WL.boxA rfl rfl (fun _ => ?_))
 refine jW ?_
 refine jg rfl (jN (jm (jn rfl) (jm (jp 1 rfl rfl rfl) (jm (jo rfl) ?_))))
 refine WL.leI rfl rfl rfl (fun h => ?_) (fun h => ?_)
 refine jb rfl (jG (jm (jn rfl) (jG (jm (jn rfl) (jG (jm (jn rfl) (jG (jm (jp 1 rfl rfl rfl) (jG (jm (jo rfl) (jG ?_)))))))))))
 refine WL.leI rfl rfl rfl (fun h => ?_) (fun h => ?_)
 refine jk rfl (jb rfl (jG (jm (jn rfl) (jG (jm (jn rfl) (jG (jm (jn rfl) (jG (jm (jp 1 rfl rfl rfl) (jG (jm (jo rfl) (jG ?_))))))))))))
 refine WL.leI rfl rfl rfl (fun h => ?_) (fun h => ?_)
 refine jk rfl (jb rfl (jG (jm (jn rfl) (jG (jm (jn rfl) (jG (jm (jn rfl) (jG (jm (jp 1 rfl rfl rfl) (jG (jm (jo rfl) (jG ?_))))))))))))
 refine WL.leI rfl rfl rfl (fun h => ?_) (fun h => ?_)
 refine jk rfl (jg rfl (jM (jR ?_)))
 rotate_left
 refine jk rfl (jg rfl (jM (jR ?_)))
 rotate_left
 refine jk rfl (jb rfl (jH (jH (jH (jH (jH (jH (jk rfl (jg rfl (jM (jR ?_)))))))))))
 rotate_left
 refine jk rfl (jb rfl (jH (jH (jH (jH (jH (jH (jk rfl (jb rfl (jH (jH (jH (jH (jH (jH (jk rfl (jg rfl (jM (jR ?_)))))))))))))))))))
 rotate_left
 refine jb rfl (jH (jH (jH (jH (jH (jH (jk rfl (jb rfl (jH (jH (jH (jH (jH (jH (jk rfl (jb rfl (jH (jH (jH (jH (jH (jH (jk rfl (jg rfl (jM (jR ?_))))))))))))))))))))))))))
 rotate_left
 all_goals
  refine jP [] (jr1 rfl (jtB rfl)) ?_
 all_goals refine ⟨rfl, rfl, ?_⟩
 all_goals unfold Atr.small
 all_goals first | exact EqP.t (by omega) | exact EqP.f (by omega)
theorem smallActs (l : List Ac) (m : Int) (v : Value) (I : Mem) (hv : LsAt Ac.rep I l v) : Ctr Tryz.prog 47 [v, vi m] I [] (Still I (EqP (smallA l m))) := by
 have hv0 := hv
 have hle := hv.le
 unfold maxLen at hle
 obtain ⟨a1, c1, rfl⟩ := hv.sl
 refine Ctr.intro Tryz.func47 rfl rfl rfl fun E F => ?_
 refine jS (jg rfl (jM (jB (jS (jc rfl (jm (jo rfl) (ja rfl (jM (WC.block ?_)))))))))
 refine WC.loop (fun n ρ' I' L' => ∃ k : Nat, n = l.length - k ∧ k ≤ l.length ∧ I' = I ∧ ρ' 0 = .slice a1 l.length c1 ∧ ρ' 1 = vi m ∧ ρ' 11 = .slice a1 l.length c1 ∧ ρ' 12 = vi l.length ∧ ρ' 13 = vi k ∧ L' = [F] ∧ ∀ a ∈ l.take k, a.small)
  l.length ⟨0, rfl, by omega, rfl, rfl, rfl, rfl, rfl, rfl, rfl, by simp⟩ ?_
 rintro n ρ' I0 L' ⟨k, rfl, hk, rfl, r0, r1, r11, r12, r13, rfl, hall⟩
 refine ju5 r13 r12 r11 r1 r0 ?_
 by_cases hkn : k < l.length
 ·obtain ⟨b, off, cap, cs, he, ⟨av, rfl, hki, ha⟩, hA⟩ := hv0.get k hkn
  cases he
  have hmem := List.getElem_mem hkn
  have htk : l.take (k + 1) = l.take k ++ [l[k]] := by rw [List.take_succ_eq_append_getElem hkn]
  have hal := ha.le
  unfold maxLen at hal
  have ha0 := ha
  obtain ⟨a2, c2, rfl⟩ := ha.sl
  generalize l[k] = a at *
  by_cases h70 : 70 < a.cms.length
  ·skip
   refine jS (jy rfl rfl (jM (jB (jF (jV (jA (jB (WC.block (jS (jm (jZ rfl rfl) (jm (Val.loadI rfl (by assumption) rfl) ?_)))))))))))
   refine WL.alloc rfl (fun _ => ?_)
   refine jW ?_
   refine WL.stA 1 rfl rfl rfl rfl ?_
   refine jM (jB (jS (jm (jn rfl) (jm (jp 1 rfl rfl rfl) (jm (jo rfl) (jO rfl rfl (jM (jF (jS (jg rfl (jM (jR (jU (WX.inRet (jU (jU (WX.inRet (jU ?_))))))))))))))))))
   exact jP [] (jr1 rfl (jtB rfl)) ⟨rfl, rfl, EqP.f fun e => by have := (e.1 a hmem).1; omega⟩
  refine jS (jy rfl rfl (jM (jB (jF (jV (jA (jB (WC.block (jS (jm (jZ rfl rfl) (jm (Val.loadI rfl (by assumption) rfl) ?_)))))))))))
  refine WL.alloc rfl (fun _ => ?_)
  refine jW ?_
  refine WL.stA 1 rfl rfl rfl rfl ?_
  refine jM (jB (jS (jm (jn rfl) (jm (jp 1 rfl rfl rfl) (jm (jo rfl) (jL rfl rfl (jM (jE (jV (jK (jm (jn rfl) (jm (jp 1 rfl rfl rfl) (jm (jo rfl) (ja rfl (jM (WC.block (WC.conv (fun w h => h.sub [0] rfl) ?_)))))))))))))))))
  refine WC.loop (fun n ρ' I' L' => ∃ j : Nat, n = a.cms.length - j ∧ j ≤ a.cms.length ∧ I' = I0 ∧ ρ' 0 = .slice (some ⟨b, off, none⟩) l.length c1 ∧ ρ' 1 = vi m ∧ ρ' 11 = .slice (some ⟨b, off, none⟩) l.length c1 ∧ ρ' 12 = vi l.length ∧ ρ' 13 = vi k ∧ ρ' 22 = .slice a2 a.cms.length c2 ∧ ρ' 23 = vi a.cms.length ∧ ρ' 24 = vi j ∧ L' = [F] ∧ ∀ c ∈ a.cms.take j, small20 c)
   a.cms.length ⟨0, rfl, by omega, rfl, rfl, rfl, rfl, rfl, rfl, rfl, rfl, rfl, rfl, by simp⟩ ?_
  rintro n ρ' I1 L' ⟨j, rfl, hj, rfl, r0, r1, r11, r12, r13, r22, r23, r24, rfl, hallj⟩
  refine ju8 r24 r23 r22 r13 r12 r11 r1 r0 ?_
  by_cases hjn : j < a.cms.length
  ·obtain ⟨b3, off3, cap3, cs3, he3, ⟨e, t, u, d, q, rfl, hc⟩, hA3⟩ := ha0.get j hjn
   cases he3
   have hmc := List.getElem_mem hjn
   have htj : a.cms.take (j + 1) = a.cms.take j ++ [a.cms[j]] := by rw [List.take_succ_eq_append_getElem hjn]
   have hca := hc.atr
   have hce := hc.ents
   have hcl := hce.le
   unfold maxLen at hcl
   obtain ⟨x0, y0, x1, y1, x2, y2, x3, y3, x4, y4, rfl, rfl, rfl, rfl, rfl⟩ := hc.sl
   generalize a.cms[j] = c at *
   by_cases h20 : 20 < c.ents.length
   ·skip
    refine jS (jy rfl rfl (jM (jB (jF (jV (jA (jB (WC.block (jS (jm (jZ rfl rfl) (jm (Val.loadI rfl (by assumption) rfl) ?_)))))))))))
    refine WL.alloc rfl (fun _ => ?_)
    refine jW ?_
    refine WL.stA 1 rfl rfl rfl rfl ?_
    refine jM (jB (jS (jm (jn rfl) (jm (jp 1 rfl rfl rfl) (jm (jo rfl) (jO rfl rfl (jb rfl (jH (jH (jH (jH (jk rfl (jM (jF (jS (jg rfl (jM (jR (jU (WX.inRet (jU (jU (WX.inRet (WX.inRet (jU (jU (WX.inRet (jU ?_))))))))))))))))))))))))))))
    exact jP [] (jr1 rfl (jtB rfl)) ⟨rfl, rfl, EqP.f fun e => by have := ((e.1 a hmem).2 c hmc).2; omega⟩
   refine jS (jy rfl rfl (jM (jB (jF (jV (jA (jB (WC.block (jS (jm (jZ rfl rfl) (jm (Val.loadI rfl (by assumption) rfl) ?_)))))))))))
   refine WL.alloc rfl (fun _ => ?_)
   refine jW ?_
   refine WL.stA 1 rfl rfl rfl rfl ?_
   refine jM (jB (jS (jm (jn rfl) (jm (jp 1 rfl rfl rfl) (jm (jo rfl) (jL rfl rfl (jb rfl (jG (jm (jn rfl) (jG (jm (jt 1 rfl rfl rfl) (jG ?_))))))))))))
   refine WL.callE rfl rfl (smallAttr20 c.atr _ _ _ _ _ hca) rfl (fun hs => ?_) (fun hs => ?_)
   case refine_2 =>
    refine jG (jl rfl (jk rfl (jM (jF (jS (jg rfl (jM (jR (jU (WX.inRet (jU (jU (WX.inRet (WX.inRet (jU (jU (WX.inRet (jU ?_))))))))))))))))))
    exact jP [] (jr1 rfl (jtB rfl)) ⟨rfl, rfl, EqP.f fun e => hs ((e.1 a hmem).2 c hmc).1.2.1⟩
   refine jG (jl rfl (jk rfl (jM (jE (jV (jK (jm (jn rfl) (jm (jp 1 rfl rfl rfl) (jm (jo rfl) (ja rfl (jM (WC.block (WC.conv (fun w h => h.sub [0] rfl) ?_)))))))))))))
   refine WC.loop (fun n ρ' I' L' => ∃ i : Nat, n = c.ents.length - i ∧ i ≤ c.ents.length ∧ I' = I1 ∧ ρ' 0 = .slice (some ⟨b, off, none⟩) l.length c1 ∧ ρ' 1 = vi m ∧ ρ' 11 = .slice (some ⟨b, off, none⟩) l.length c1 ∧ ρ' 12 = vi l.length ∧ ρ' 13 = vi k ∧ ρ' 22 = .slice (some ⟨b3, off3, none⟩) a.cms.length c2 ∧ ρ' 23 = vi a.cms.length ∧ ρ' 24 = vi j ∧ ρ' 39 = .slice x0 c.ents.length y0 ∧ ρ' 40 = vi c.ents.length ∧ ρ' 41 = vi i ∧ L' = [F] ∧ ∀ x ∈ c.ents.take i, x.atr.small)
    c.ents.length ⟨0, rfl, by omega, rfl, rfl, rfl, rfl, rfl, rfl, rfl, rfl, rfl, rfl, rfl, rfl, rfl, by simp⟩ ?_
   rintro n ρ' I2 L' ⟨i, rfl, hi, rfl, r0, r1, r11, r12, r13, r22, r23, r24, r39, r40, r41, rfl, halli⟩
   refine ju11 r41 r40 r39 r24 r23 r22 r13 r12 r11 r1 r0 ?_
   by_cases hin : i < c.ents.length
   ·obtain ⟨b5, off5, cap5, cs5, he5, ⟨t5, u5, d5, q5, rfl, hx⟩, hA5⟩ := hce.get i hin
    cases he5
    have hmx := List.getElem_mem hin
    have hti : c.ents.take (i + 1) = c.ents.take i ++ [c.ents[i]] := by rw [List.take_succ_eq_append_getElem hin]
    have hxa := hx.atr
    obtain ⟨p1, o1, p2, o2, p3, o3, p4, o4, rfl, rfl, rfl, rfl⟩ := hx.sl
    generalize c.ents[i] = x at *
    refine jS (jy rfl rfl (jM (jB (jF (jV (jA (jB (WC.block (jS (jm (jZ rfl rfl) (jm (Val.loadI rfl (by assumption) rfl) ?_)))))))))))
    refine WL.alloc rfl (fun _ => ?_)
    refine jW ?_
    refine WL.stA 1 rfl rfl rfl rfl ?_
    refine jN (jm (jn rfl) (jm (jt 1 rfl rfl rfl) ?_))
    refine WL.callE rfl rfl (smallAttr20 x.atr _ _ _ _ _ hxa) rfl (fun hs2 => ?_) (fun hs2 => ?_)
    case refine_2 =>
     refine jl rfl (jM (jF (jS (jg rfl (jM (jR (WX.inRet (jU (jU (WX.inRet (WX.inRet (jU (jU (WX.inRet (WX.inRet (jU (jU (WX.inRet (jU ?_)))))))))))))))))))
     exact jP [] (jr1 rfl (jtB rfl)) ⟨rfl, rfl, EqP.f fun e => hs2 (((e.1 a hmem).2 c hmc).1.2.2 x hmx)⟩
    refine jl rfl (jM (jE (jV (WX.inNormal (jA (jD (jX rfl rfl (ja rfl (jC (WX.conv (fun w h => h.sub [0] rfl) ?_))))))))))
    refine WX.thenK (WK.round (c.ents.length - (i + 1)) (by omega) ⟨i + 1, rfl, by omega, rfl, rfl, rfl, rfl, rfl, rfl, rfl, rfl, rfl, rfl, rfl, rfl, rfl, ?_⟩)
    rw [hti]
    intro y hy
    rcases List.mem_append.1 hy with hy | hy
    ·exact halli y hy
    ·rw [List.mem_singleton.1 hy]; exact hs2
   ·have hie : i = c.ents.length := by omega
    subst hie
    rw [List.take_length] at halli
    refine jS (jx rfl rfl (jM (jB (jE (WC.exit (WX.thenExit (WX.thenExit (WX.inHit (WX.inNormal (jA (jD (jX rfl rfl (ja rfl (jC ?_))))))))))))))
    refine WX.thenK (WK.round (a.cms.length - (j + 1)) (by omega) ⟨j + 1, rfl, by omega, rfl, rfl, rfl, rfl, rfl, rfl, rfl, rfl, rfl, rfl, ?_⟩)
    rw [htj]
    intro y hy
    rcases List.mem_append.1 hy with hy | hy
    ·exact hallj y hy
    ·rw [List.mem_singleton.1 hy]; exact ⟨⟨by omega, hs, halli⟩, by omega⟩
  ·have hjl : j = a.cms.length := by omega
   subst hjl
   rw [List.take_length] at hallj
   refine jS (jx rfl rfl (jM (jB (jE (WC.exit (WX.thenExit (WX.thenExit (WX.inHit (WX.inNormal (jA (jD (jX rfl rfl (ja rfl (jC ?_))))))))))))))
   refine WX.thenK (WK.round (l.length - (k + 1)) (by omega) ⟨k + 1, rfl, by omega, rfl, rfl, rfl, rfl, rfl, rfl, rfl, ?_⟩)
   rw [htk]
   intro y hy
   rcases List.mem_append.1 hy with hy | hy
   ·exact hall y hy
   ·rw [List.mem_singleton.1 hy]; exact ⟨by omega, hallj⟩
 ·have hkl : k = l.length := by omega
  subst hkl
  rw [List.take_length] at hall
  by_cases hm : (l.length : Int) ≤ m
  ·skip
   refine jS (jx rfl rfl (jM (jB (jE (WC.exit (WX.thenExit (WX.thenExit (WX.inHit (jK (jc rfl (jm (jo rfl) (ja rfl (jm (Val.leq rfl rfl (decide_eq_true (by omega))) ?_)))))))))))))
   refine jg rfl (jM (jR ?_))
   exact jP [] (jr1 rfl (jtB rfl)) ⟨rfl, rfl, EqP.t ⟨hall, hm⟩⟩
  ·skip
   refine jS (jx rfl rfl (jM (jB (jE (WC.exit (WX.thenExit (WX.thenExit (WX.inHit (jK (jc rfl (jm (jo rfl) (ja rfl (jm (Val.leq rfl rfl (decide_eq_false (by omega))) ?_)))))))))))))
   refine jg rfl (jM (jR ?_))
   exact jP [] (jr1 rfl (jtB rfl)) ⟨rfl, rfl, EqP.f fun e => hm e.2⟩
theorem errD_len {d : Dr} {l : List Cm} (h : errD d l = 0) : l.length ≤ 64 := by
 unfold errD at h
 split at h
 ·omega
 ·split at h
  ·cases h
  ·omega
section
variable (H : Hm) (d : Dr) (us rs : List (List Cm)) (ws ns : List Dr) (I : Mem) (k : Nat) (hN : NeedAt I) (hH : HAbs I H d us rs ws ns) (hP : Past H.bnd k d us rs ws ns)
include hN hH hP
end
end Go.Proofs.YtggcpoleklcmkaaGreatDoor

namespace Go.Hi
open Go.Sl Go.Ls Go.Tr Go.Dc
def EL : Rep (List Ent) := fun I l cs => ∃ v, cs = [v] ∧ LsAt Ent.rep I l v
instance : RepMono EL := ⟨fun h hI => by
 obtain ⟨v, h1, h2⟩ := h
 exact ⟨v, h1, h2.mono hI⟩⟩
end Go.Hi
namespace Go.Proofs.YtggcpoleklcmkaaGreatDoor
open Go.Sl Go.Ls Go.Tr Go.Dc Go.Hi
abbrev stBox (sb u r b : Nat) : HP := box sb 102 [vi u, vi r, vi b]
theorem sDo (sb u r b : Nat) (I : Mem) (hb : b ≤ 100000) (hu : u ≤ b) : Ctr Tryz.prog 88 [ptr sb] I [stBox sb u r b] (fun _ I' L' => ∃ q, L' = [q] ∧ I' = I ∧ q = stBox sb (min (u + 1) b) 0 b) := by
 refine Ctr.intro Tryz.func88 rfl rfl rfl fun E F => ?_
 change WC _ _ _ _ [F, box sb 102 [vi u, vi r, vi b]] _
 by_cases h : u < b
 ·rw [show min (u + 1) b = u + 1 by omega]
  refine jB (jB (j8 999 [1] rfl (jT 0 rfl (Val.moveP rfl) (jT 1 rfl (jr rfl) (jT 2 rfl (jn rfl) (jT 3 rfl (jp 0 rfl rfl rfl) (jT 4 rfl (Val.moveP rfl) (jT 5 rfl (jr rfl) (jT 6 rfl (jn rfl) (jT 7 rfl (jp 0 rfl rfl rfl) (jT 8 rfl (Val.lss rfl rfl (decide_eq_true (by omega))) ?_)))))))))))
  refine j6 (jA (jF (jD (jd rfl (jm (jr rfl) (jm (jn rfl) (jm (jp 1 rfl rfl rfl) (jX rfl rfl (jm (jr rfl) (jm (jn rfl) (WL.stI 1 rfl rfl rfl rfl ?_)))))))))))
  refine jM (jD (jd rfl (jm (jr rfl) (jm (jn rfl) (WL.stI 1 rfl rfl rfl rfl ?_)))))
  refine jC ?_
  apply WX.doneN (ks := [0])
  case hres => exact RunRes.r0 rfl
  case hp => rfl
  case hI => first | exact Mem.le.refl _ | assumption
  exact ⟨_, rfl, rfl, rfl⟩
 ·rw [show min (u + 1) b = u by omega]
  refine jB (jB (j8 999 [1] rfl (jT 0 rfl (Val.moveP rfl) (jT 1 rfl (jr rfl) (jT 2 rfl (jn rfl) (jT 3 rfl (jp 0 rfl rfl rfl) (jT 4 rfl (Val.moveP rfl) (jT 5 rfl (jr rfl) (jT 6 rfl (jn rfl) (jT 7 rfl (jp 0 rfl rfl rfl) (jT 8 rfl (Val.lss rfl rfl (decide_eq_false (by omega))) ?_)))))))))))
  refine j6 (jA (jE (jV (jA (jD (jd rfl (jm (jr rfl) (jm (jn rfl) (WL.stI 1 rfl rfl rfl rfl ?_)))))))))
  refine jC ?_
  apply WX.doneN (ks := [0])
  case hres => exact RunRes.r0 rfl
  case hp => rfl
  case hI => first | exact Mem.le.refl _ | assumption
  exact ⟨_, rfl, rfl, rfl⟩
theorem sUndoes (sb u r b : Nat) (I : Mem) (hu : u ≤ 100000) (hr : r ≤ 100000) : Ctr Tryz.prog 89 [ptr sb] I [stBox sb u r b] (fun v I' L' => ∃ q, L' = [q] ∧ I' = I ∧ ((u = 0 ∧ v = .bool false ∧ q = stBox sb u r b) ∨ (u ≠ 0 ∧ v = .bool true ∧ q = stBox sb (u - 1) (r + 1) b))) := by
 refine Ctr.intro Tryz.func89 rfl rfl rfl fun E F => ?_
 change WC _ _ _ _ [F, box sb 102 [vi u, vi r, vi b]] _
 by_cases h : u = 0
 ·subst h
  refine jS (jg rfl (jM (jB (jS (jd rfl (jm (jr rfl) (jm (jn rfl) (jm (jp 1 rfl rfl rfl) (jw rfl rfl (jM (jF (jS (jg rfl (jM (jR (jU ?_))))))))))))))))
  exact jP [0] (jr1 rfl (jtB rfl)) ⟨_, rfl, rfl, .inl ⟨rfl, rfl, rfl⟩⟩
 ·obtain ⟨u, rfl⟩ : ∃ m, u = m + 1 := ⟨u - 1, by omega⟩
  have e1 : ((u + 1 : Nat) : Int) - 1 = (u : Int) := by omega
  have e2 : ¬ (((u + 1 : Nat) : Int) = 0) := by omega
  refine jS (jg rfl (jM (jB (jS (jd rfl (jm (jr rfl) (jm (jn rfl) (jm (jp 1 rfl rfl rfl) (jv rfl rfl (jM (jE (jV (jK (jd rfl (jm (jr rfl) (jm (jn rfl) (jm (jp 1 rfl rfl rfl) (jm (Val.sub rfl rfl (wrap_i64 (by omega) (by omega))) ?_))))))))))))))))))
  refine jm (jr rfl) (jm (jn rfl) (WL.stI 1 rfl rfl rfl rfl ?_))
  refine jN (jd rfl (jm (jr rfl) (jm (jn rfl) (jm (jp 1 rfl rfl rfl) (jX rfl rfl (jm (jr rfl) (jm (jn rfl) (WL.stI 1 rfl rfl rfl rfl ?_))))))))
  refine jN (jg rfl (jM (jR ?_)))
  rw [e1]
  skip
  exact jP [0] (jr1 rfl (jtB rfl)) ⟨_, rfl, rfl, .inr ⟨h, rfl, rfl⟩⟩
theorem sRedoes (sb u r b : Nat) (I : Mem) (hu : u ≤ 100000) (hr : r ≤ 100000) : Ctr Tryz.prog 90 [ptr sb] I [stBox sb u r b] (fun v I' L' => ∃ q, L' = [q] ∧ I' = I ∧ ((r = 0 ∧ v = .bool false ∧ q = stBox sb u r b) ∨ (r ≠ 0 ∧ v = .bool true ∧ q = stBox sb (u + 1) (r - 1) b))) := by
 refine Ctr.intro Tryz.func90 rfl rfl rfl fun E F => ?_
 change WC _ _ _ _ [F, box sb 102 [vi u, vi r, vi b]] _
 by_cases h : r = 0
 ·subst h
  refine jS (jg rfl (jM (jB (jS (jd rfl (jm (jr rfl) (jm (jn rfl) (jm (jp 1 rfl rfl rfl) (jw rfl rfl (jM (jF (jS (jg rfl (jM (jR (jU ?_))))))))))))))))
  exact jP [0] (jr1 rfl (jtB rfl)) ⟨_, rfl, rfl, .inl ⟨rfl, rfl, rfl⟩⟩
 ·obtain ⟨r, rfl⟩ : ∃ m, r = m + 1 := ⟨r - 1, by omega⟩
  have e1 : ((r + 1 : Nat) : Int) - 1 = (r : Int) := by omega
  have e2 : ¬ (((r + 1 : Nat) : Int) = 0) := by omega
  refine jS (jg rfl (jM (jB (jS (jd rfl (jm (jr rfl) (jm (jn rfl) (jm (jp 1 rfl rfl rfl) (jv rfl rfl (jM (jE (jV (jK (jd rfl (jm (jr rfl) (jm (jn rfl) (jm (jp 1 rfl rfl rfl) (jm (Val.sub rfl rfl (wrap_i64 (by omega) (by omega))) ?_))))))))))))))))))
  refine jm (jr rfl) (jm (jn rfl) (WL.stI 1 rfl rfl rfl rfl ?_))
  refine jN (jd rfl (jm (jr rfl) (jm (jn rfl) (jm (jp 1 rfl rfl rfl) (jX rfl rfl (jm (jr rfl) (jm (jn rfl) (WL.stI 1 rfl rfl rfl rfl ?_))))))))
  refine jN (jg rfl (jM (jR ?_)))
  rw [e1]
  skip
  exact jP [0] (jr1 rfl (jtB rfl)) ⟨_, rfl, rfl, .inr ⟨h, rfl, rfl⟩⟩
abbrev pastHp (pb sb : Nat) (H : Hm) (wv nv nowv : Value) (wp np : HP) (u r : Nat) : List HP := [box pb 106 [wv, nv, nowv], stBox sb u r H.bnd, wp, np, sts (Hm.hp H)]
structure PAbs (I : Mem) (H : Hm) (d : Dr) (us rs : List (List Cm)) (ws ns : List Dr) (wv nv nowv : Value) (wp np : HP) : Prop where
 h : HAbs I H d us rs ws ns
 w : Off EL 54 I (ws.map Dr.entries) wv wp
 n : Off EL 54 I (ns.map Dr.entries) nv np
 now : LsAt Ent.rep I d.entries nowv
 sum : us.length + rs.length ≤ H.bnd
theorem PAbs.mono {I I' : Mem} {H : Hm} {d : Dr} {us rs : List (List Cm)} {ws ns : List Dr} {wv nv nowv : Value} {wp np : HP} (h : PAbs I H d us rs ws ns wv nv nowv wp np) (hI : I.le I') : PAbs I' H d us rs ws ns wv nv nowv wp np := ⟨h.h.mono hI, h.w.mono hI, h.n.mono hI, h.now.mono hI, h.sum⟩
def PastR (pb sb b bnd k : Nat) : Value → Mem → List HP → Prop := fun v I' L' => v = .bool true ∧ ∃ (H : Hm) (d : Dr) (us rs : List (List Cm)) (ws ns : List Dr) (wv nv nowv : Value) (wp np : HP), H.b = b ∧ H.bnd = bnd ∧ L' = pastHp pb sb H wv nv nowv wp np us.length rs.length ∧ PAbs I' H d us rs ws ns wv nv nowv wp np ∧ Past bnd (k + 1) d us rs ws ns
attribute [local irreducible] WC WL WX WK WA WAK Val Ctr RunRes ResIs Rd At sl box pt Exit.then Exit.inBlock bodyPost Code.wp wpList
def Want (d : Dr) (l : List Cm) (j : Nat) (d2 : Dr) (want : Int) : Prop := (want = 0 ∧ (∃ bs, Run d (l.take j) d2 bs) ∧ d2.segs ≤ d.segs + 600 * (j : Int)) ∨ (want ≠ 0 ∧ want = errS d l)
theorem hPastDo (pb sb k : Nat) (a : Ac) (av : Value) (H : Hm) (d : Dr) (us rs : List (List Cm)) (ws ns : List Dr) (wv nv nowv : Value) (wp np : HP) (I : Mem) (hN : NeedAt I) (hP : PAbs I H d us rs ws ns wv nv nowv wp np) (hK : Past H.bnd k d us rs ws ns) (hk : k < 25) (hki : I64 a.kind) (hac : LsAt Cm.rep I a.cms av) (hsm : a.small) :
  Ctr Tryz.prog 48 [ptr pb, ptr H.b, ptr sb, .agg #[vi a.kind, av]] I (pastHp pb sb H wv nv nowv wp np us.length rs.length) (PastR pb sb H.b H.bnd k) := by
 have hac0 := hac
 obtain ⟨aa, ac, rfl⟩ := hac.sl
 obtain ⟨wa, wc, hwv⟩ := hP.w.sl
 obtain ⟨na, nc, hnv⟩ := hP.n.sl
 have hnow0 := hP.now
 obtain ⟨oa, oc, hov⟩ := hnow0.sl
 have hH := hP.h
 have hul := hH.ul
 have hrl := hH.rl
 have hb1 := hH.b1
 have hb2 := hH.b2
 have hwl := hH.cu.len
 have hnl := hH.cr.len
 have hsum := hP.sum
 have hseg := hK.segs.d
 have h70 := hsm.1
 subst hwv hnv hov
 simp only [List.length_map] at hP ⊢
 refine Ctr.intro Tryz.func48 rfl rfl rfl fun E F => ?_
 change WC _ _ _ _ [F, box pb 106 [.slice wa ws.length wc, .slice na ns.length nc, .slice oa d.entries.length oc], box sb 102 [vi us.length, vi rs.length, vi H.bnd], wp, np, sts (Hm.hp H)] _
 refine jS (WL.boxA rfl rfl (fun _ => ?_))
 refine jW ?_
 refine jg rfl (jM (jB (jS (jm (jn rfl) (jm (jp 6 rfl rfl rfl) (jM (WC.block (jS (jm (Val.eql rfl rfl rfl) ?_)))))))))
 refine jg rfl (jM ?_)
 rename_i g
 refine WC.cutB (fun ρ' I' L' => ∃ (H' : Hm) (d' : Dr) (us' rs' : List (List Cm)) (ws' ns' : List Dr) (wv' nv' nowv' : Value) (wp' np' : HP), I.le I' ∧ H'.b = H.b ∧ H'.bnd = H.bnd ∧ ρ' 0 = ptr pb ∧ ρ' 1 = ptr H.b ∧ ρ' 2 = ptr sb ∧ L' = F :: pastHp pb sb H' wv' nv' nowv' wp' np' us'.length rs'.length ∧ PAbs I' H' d' us' rs' ws' ns' wv' nv' nowv' wp' np' ∧ Past H.bnd (k + 1) d' us' rs' ws' ns') ?_ ?_
 ·by_cases k1 : a.kind = 1
  ·rw [beq_iff_eq.2 k1]
   refine jF (jS (jd rfl (WL.callSts 5 rfl rfl rfl (hDoc H _ _ _ _ _ _ hH) rfl ?_)))
   rintro _ I2 _ _ ⟨rfl, D2, rfl, rfl, hD2⟩
   refine WL.nSet ?_
   refine WL.splitSts 5 rfl ?_
   change WL _ _ _ _ _ [F, _, _, _, _, _, _, _] _
   refine ji rfl (jN (jf rfl (jM (jB (jS (jm (jn rfl) (jm (jp 6 rfl rfl rfl) (jm (jo rfl) (ja rfl (jM (WC.block ?_)))))))))))
   refine WC.loop (fun q ρ' I' L' => ∃ (j : Nat) (D : Dm) (e2 : Dr) (want : Int), q = a.cms.length - j ∧ j ≤ a.cms.length ∧ I2.le I' ∧ ρ' 0 = ptr pb ∧ ρ' 1 = ptr H.b ∧ ρ' 2 = ptr sb ∧ ρ' 7 = ptr g ∧ ρ' 9 = ptr D.b ∧ ρ' 10 = vi want ∧ ρ' 24 = .slice aa a.cms.length ac ∧ ρ' 25 = vi a.cms.length ∧ ρ' 26 = vi j ∧ L' = [F, box pb 106 [.slice wa ws.length wc, .slice na ns.length nc, .slice oa d.entries.length oc], box sb 102 [vi us.length, vi rs.length, vi H.bnd], wp, np, sts (Hm.hp H), box g 108 [vi a.kind, .slice aa a.cms.length ac], sts D.hp] ∧ DAbs I' D e2 ∧ Want d a.cms j e2 want)
    a.cms.length ⟨0, D2, d, 0, rfl, Nat.zero_le _, Mem.le.refl _, rfl, rfl, rfl, rfl, rfl, rfl, rfl, rfl, rfl, rfl, hD2, .inl ⟨rfl, ⟨[], by rw [List.take_zero]; exact .nil hH.good⟩, by omega⟩⟩ ?_
   clear hD2
   rintro q ρ' I3 L' ⟨j, D, e2, want, rfl, hj, hI3, q0, q1, q2, q7, q9, q10, q24, q25, q26, rfl, hD, hW⟩
   refine ju9 q26 q25 q24 q10 q9 q7 q2 q1 q0 ?_
   have hN3 := hN.mono hI3
   by_cases hjn : j < a.cms.length
   ·obtain ⟨bq, off, cap, cs, he, ⟨e, t, u, dd, q, rfl, hc⟩, hA⟩ := (hac0.mono hI3).get j hjn
    cases he
    have htk := List.take_succ_eq_append_getElem hjn
    have hlk : a.cms = a.cms.take j ++ a.cms[j] :: a.cms.drop (j + 1) := by rw [← List.drop_eq_getElem_cons hjn, List.take_append_drop]
    have hc20 := hsm.2 _ (List.getElem_mem hjn)
    generalize hcj : a.cms[j] = c at *
    have hc0 := hc
    obtain ⟨x0, y0, x1, y1, x2, y2, x3, y3, x4, y4, rfl, rfl, rfl, rfl, rfl⟩ := hc.sl
    rcases hW with ⟨rfl, ⟨bs, hR⟩, hsg⟩ | ⟨hw0, hw⟩
    ·skip
     refine jS (jy rfl rfl (jM (jB (jF (jV (jA (jB (WC.block (jS (jm (jZ rfl rfl) (jm (Val.loadI rfl (by assumption) rfl) ?_)))))))))))
     refine WL.alloc rfl (fun _ => ?_)
     refine jW ?_
     refine WL.stA 8 rfl rfl rfl rfl ?_
     refine jN (ja rfl (jw rfl rfl (jM (jF (jD (jd rfl (jm (jt 8 rfl rfl rfl) (WL.callSts 7 rfl rfl rfl (dApply D e2 c _ _ _ _ _ _ hN3 hD hc0 (segs20 hc20).2 hR.good.2.2.1.inv.nonneg (by have := (segs20 hc20).1; have := hsm.1; omega)) rfl ?_))))))))
     rintro _ I4 _ hI4 ⟨D', bcs, rfl, ⟨e', t', u', d', q', rfl, hbk⟩, hb, rfl, hD'⟩
     obtain ⟨p0, o0, p1, o1, p2, o2, p3, o3, p4, o4, rfl, rfl, rfl, rfl, rfl⟩ := hbk.sl
     refine WL.nSet ?_
     rw [← hb]
     refine je rfl (jm (Val.extractA rfl rfl) (jm (jq rfl rfl) (jf rfl (jC (WX.inNormal (jA (jD (jX rfl rfl (ja rfl (jC (WX.conv (fun w h => h.sub [0, 0, 0, 0, 0, 0, 0, 0] rfl) ?_)))))))))))
     refine WX.thenK (WK.round (a.cms.length - (j + 1)) (by omega) ⟨j + 1, D', (e2.apply c).1, (e2.apply c).2.2, rfl, by omega, hI3.trans hI4, rfl, rfl, rfl, rfl, rfl, rfl, rfl, rfl, rfl, rfl, hD', ?_⟩)
     by_cases he : (e2.apply c).2.2 = 0
     ·refine .inl ⟨he, ⟨_, by rw [htk]; exact hR.snoc he ⟨⟨_, hD'.abs⟩, hR.good.2.2.1.apply (c := c) hD.abs hR.good.2.2.2 hD'.abs, hD'.dom⟩⟩, ?_⟩
      have := apply_segs20 (d := e2) hc20
      omega
     ·exact .inr ⟨he, by rw [hlk]; exact (hR.err_app _ he).symm⟩
    ·skip
     refine jS (jy rfl rfl (jM (jB (jF (jV (jA (jB (WC.block (jS (jm (jZ rfl rfl) (jm (Val.loadI rfl (by assumption) rfl) ?_)))))))))))
     refine WL.alloc rfl (fun _ => ?_)
     refine jW ?_
     refine WL.stA 8 rfl rfl rfl rfl ?_
     exact jN (ja rfl (jv rfl rfl (jM (jE (jV (WX.inNormal (jA (jD (jX rfl rfl (ja rfl (jC (WX.conv (fun w h => h.sub [0, 0, 0, 0, 0, 0, 0, 0] rfl) (WX.thenK (WK.round (a.cms.length - (j + 1)) (by omega) ⟨j + 1, D, e2, want, rfl, by omega, hI3, rfl, rfl, rfl, rfl, rfl, rfl, rfl, rfl, rfl, rfl, hD, .inr ⟨hw0, hw⟩⟩))))))))))))))
   have hjl : j = a.cms.length := by omega
   subst hjl
   have hwe : want = errS d a.cms := by
    rcases hW with ⟨rfl, ⟨bs, hR⟩, hsg⟩ | ⟨hw0, hw⟩
    ·rw [List.take_length] at hR; exact hR.err.symm
    ·exact hw
   refine jS (jx rfl rfl (jM (jB (jE (WC.exit (WX.thenExit (WX.thenExit (WX.inHit (jA (jB (WC.block (jS (jm (jn rfl) (jm (jp 6 rfl rfl rfl) (jm (jo rfl) (jm (Val.eql rfl rfl rfl) ?_))))))))))))))))
   refine jg rfl (jM ?_)
   refine WC.cutB (fun ρ' I' L' => I' = I3 ∧ ρ' 0 = ptr pb ∧ ρ' 1 = ptr H.b ∧ ρ' 2 = ptr sb ∧ ρ' 7 = ptr g ∧ ρ' 9 = ptr D.b ∧ ρ' 10 = vi (errD d a.cms) ∧ L' = [F, box pb 106 [.slice wa ws.length wc, .slice na ns.length nc, .slice oa d.entries.length oc], box sb 102 [vi us.length, vi rs.length, vi H.bnd], wp, np, sts (Hm.hp H), box g 108 [vi a.kind, .slice aa a.cms.length ac], sts D.hp]) ?_ ?_
   ·by_cases h0 : a.cms.length = 0
    ·rw [beq_iff_eq.2 (show (a.cms.length : Int) = 0 by omega)]
     exact jF (jD (jf rfl (jC (WX.inNormal (WX.thenK (WK.meet ⟨rfl, rfl, rfl, rfl, rfl, rfl, by rw [errD, if_pos h0]; rfl, rfl⟩))))))
    ·rw [beq_eq_false_iff_ne.2 (show (a.cms.length : Int) ≠ 0 by omega)]
     by_cases h64 : 64 < a.cms.length
     ·skip
      exact jE (jS (jm (jn rfl) (jm (jp 6 rfl rfl rfl) (jm (jo rfl) (jO rfl rfl (jg rfl (jM (jF (jD (jf rfl (jC (WX.inNormal (WX.thenK (WK.meet ⟨rfl, rfl, rfl, rfl, rfl, rfl, by rw [errD, if_neg h0, if_pos h64]; rfl, rfl⟩))))))))))))))
     ·skip
      exact jE (jS (jm (jn rfl) (jm (jp 6 rfl rfl rfl) (jm (jo rfl) (jL rfl rfl (jg rfl (jM (jE (jV (WX.inNormal (WX.thenK (WK.meet ⟨rfl, rfl, rfl, rfl, rfl, rfl, by rw [errD, if_neg h0, if_neg h64, ← hwe]; rfl, rfl⟩))))))))))))
   rintro ρ' _ L' ⟨rfl, q0, q1, q2, q7, q9, q10, rfl⟩
   refine ju6 q10 q9 q7 q2 q1 q0 (jB (jS (jd rfl (jm (jn rfl) (jm (jp 6 rfl rfl rfl) (WL.callSts 5 rfl rfl rfl (hDo H d a.cms _ us rs ws ns _ hN3 (hH.mono hI3) (hac0.mono hI3) (fun h64 => fits20 hsm.2 (by omega))) rfl ?_))))))
   rintro _ I4 _ hI4 ⟨H', hb', hbn', rfl, rfl, hQ⟩
   refine WL.nSet ?_
   have hJ4 := hI3.trans hI4
   by_cases he : errD d a.cms = 0
   case neg =>
    have hH' := (hQ.resolve_right fun h => he h.1).2
    exact ja rfl (jz rfl rfl (jM (jE (jV (jK (ja rfl (jv rfl rfl (jM (jE (jV (WX.inNormal (WX.conv (fun w h => h.sub [0, 0, 0, 0, 0, 0] rfl) (WX.thenK (WK.meet ⟨H', d, us, rs, ws, ns, _, _, _, wp, np, hJ4, hb', hbn', rfl, rfl, rfl, by rw [pastHp, hbn'], ⟨hH', hP.w.mono hJ4, hP.n.mono hJ4, hP.now.mono hJ4, by rw [hbn']; exact hsum⟩, hK.more⟩))))))))))))))
   obtain ⟨_, d1, bs1, hr1, hH'⟩ := hQ.resolve_left fun h => h.1 he
   have h64 := errD_len he
   have hed : e2 = d1 := by
    rcases hW with ⟨_, ⟨bs, hR⟩, _⟩ | ⟨h1, h2⟩
    ·rw [List.take_length] at hR; exact (hR.uniq hr1).1
    ·exact absurd (h2.trans hr1.err) h1
   subst hed
   have hlen : (keep H.bnd (us ++ [bs1])).length = min (us.length + 1) H.bnd := by rw [keep_len, List.length_append]; show min _ (_ + 1) = _; omega
   have hl1 : (ws ++ [d]).length = ws.length + 1 := by rw [List.length_append]; rfl
   have hK1 := hK.run hwl hr1 hsm.2 h64
   rw [he]
   refine ja rfl (jz rfl rfl (jM (jE (jV (jK (ja rfl (jw rfl rfl (jM (jF (jS (jd rfl (WL.callAt 2 rfl rfl rfl (sDo sb us.length rs.length H.bnd _ (by omega) hul) rfl ?_))))))))))))
   rintro _ I5 q _ ⟨rfl, rfl⟩
   refine WL.nSet ?_
   have hPw := hP.w.mono hJ4
   have hPnow := hP.now.mono hJ4
   refine jM (jB (WC.drawK 13 I5 [1] rfl (by kernel_rfl) rfl rfl ?_))
   refine WA.take 0 rfl (by kernel_rfl) rfl (fun w h => (h.sub [1] rfl)) (Val.moveP rfl) rfl ?_
   refine WA.take 1 rfl (by kernel_rfl) rfl (fun w h => (h.sub [1] rfl)) (Val.moveP rfl) rfl ?_
   refine WA.take 2 rfl (by kernel_rfl) rfl (fun w h => (h.sub [1] rfl)) (Val.nilCheckP rfl) rfl ?_
   refine WA.take 3 rfl (by kernel_rfl) rfl (fun w h => (h.sub [1] rfl)) (Val.fldAddr rfl) rfl ?_
   refine WA.take 4 rfl (by kernel_rfl) rfl (fun w h => (h.sub [1] rfl)) (Val.loadS rfl (Rd.own1 0 rfl rfl)) rfl ?_
   refine WA.take 5 rfl (by kernel_rfl) rfl (fun w h => (h.sub [1] rfl)) (Val.moveP rfl) rfl ?_
   refine WA.take 6 rfl (by kernel_rfl) rfl (fun w h => (h.sub [1] rfl)) (Val.nilCheckP rfl) rfl ?_
   refine WA.take 7 rfl (by kernel_rfl) rfl (fun w h => (h.sub [1] rfl)) (Val.fldAddr rfl) rfl ?_
   refine WA.take 8 rfl (by kernel_rfl) rfl (fun w h => (h.sub [1] rfl)) (Val.loadS rfl (Rd.own1 0 rfl rfl)) rfl ?_
   refine WA.eff1 (i := 9) (by kernel_rfl) rfl rfl ?_
   refine WL.buildSlice (by with_unfolding_all exact rfl) rfl (by with_unfolding_all exact rfl) rfl (fun _ => ?_)
   rename_i g3
   refine jW ?_
   refine jC (WK.anyStep (fun w h => (h.sub [1] rfl)) ?_)
   refine WA.eff1 (i := 10) (by kernel_rfl) rfl rfl ?_
   refine WL.appOff (y := d.entries) (c := .slice oa d.entries.length oc) 3 8 rfl rfl hPw rfl rfl ⟨_, rfl, hPnow⟩ rfl rfl (by rw [List.length_map]; omega) (by decide) rfl fun v' wp' hw' => ?_
   rw [← List.map_singleton (f := Dr.entries), ← List.map_append] at hw'
   obtain ⟨va, vc, hv'⟩ := hw'.sl
   rw [List.length_map, hl1] at hv'
   subst hv'
   refine WL.nSet ?_
   refine jC (WK.anyStep (fun w h => (h.sub [1] rfl)) ?_)
   refine WA.eff1 (i := 11) (by kernel_rfl) rfl rfl ?_
   refine jm (jr rfl) (jC (WK.anyStep (fun w h => (h.sub [1] rfl)) ?_))
   refine WA.eff1 (i := 12) (by kernel_rfl) rfl rfl ?_
   refine jm (jn rfl) (jC (WK.anyStep (fun w h => (h.sub [1] rfl)) ?_))
   refine WA.eff1 (i := 13) (by kernel_rfl) rfl rfl ?_
   refine WL.storeAt 1 rfl rfl rfl rfl rfl (Nat.zero_lt_succ _) ?_
   refine WL.nSet ?_
   refine jC (WK.anyLast ?_)
   refine WA.done (by kernel_rfl) ?_
   by_cases hx : ws.length + 1 ≤ H.bnd
   ·skip
    refine jA (jB (jB (WC.drawK 999 I5 [1, 1] rfl (by kernel_rfl) rfl rfl ?_)))
    refine WA.take 0 rfl (by kernel_rfl) rfl (fun w h => (h.sub [1, 1] rfl)) (Val.moveP rfl) rfl ?_
    refine WA.take 1 rfl (by kernel_rfl) rfl (fun w h => (h.sub [1, 1] rfl)) (Val.nilCheckP rfl) rfl ?_
    refine WA.take 2 rfl (by kernel_rfl) rfl (fun w h => (h.sub [1, 1] rfl)) (Val.fldAddr rfl) rfl ?_
    refine WA.take 3 rfl (by kernel_rfl) rfl (fun w h => (h.sub [1, 1] rfl)) (Val.loadS rfl (Rd.own1 0 rfl rfl)) rfl ?_
    refine WA.take 4 rfl (by kernel_rfl) rfl (fun w h => (h.sub [1, 1] rfl)) (Val.len rfl) rfl ?_
    refine WA.take 5 rfl (by kernel_rfl) rfl (fun w h => (h.sub [1, 1] rfl)) (Val.moveP rfl) rfl ?_
    refine WA.take 6 rfl (by kernel_rfl) rfl (fun w h => (h.sub [1, 1] rfl)) (Val.nilCheckP rfl) rfl ?_
    refine WA.take 7 rfl (by kernel_rfl) rfl (fun w h => (h.sub [1, 1] rfl)) (Val.fldAddr rfl) rfl ?_
    refine WA.take 8 rfl (by kernel_rfl) rfl (fun w h => (h.sub [1, 1] rfl)) (Val.loadS rfl (Rd.own1 1 rfl rfl)) rfl ?_
    refine WA.take 9 rfl (by kernel_rfl) rfl (fun w h => (h.sub [1, 1] rfl)) (Val.gtr rfl rfl (decide_eq_false (by omega))) rfl ?_
    refine WA.done (by kernel_rfl) ?_
    refine jA (jE (jV (jA (jD (jd rfl (jd rfl (jd rfl ?_)))))))
    have hkw : keep H.bnd (ws ++ [d]) = ws ++ [d] := keep_all (by omega)
    refine WL.callStsR 7 rfl rfl rfl (dEntries D _ _ (hD.mono hI4)) rfl ?_
    rintro v6 I6 hI6 hv6
    have hv60 := hv6
    obtain ⟨e6, f6, rfl⟩ := hv6.sl
    refine jm (jr rfl) (jm (jn rfl) (WL.store 1 rfl rfl rfl ?_))
    refine WL.nSet ?_
    refine jm (jr rfl) (jm (jn rfl) (WL.store 1 rfl rfl rfl ?_))
    refine WL.nSet ?_
    exact jC (WX.inNormal (WX.conv (fun w h => (Sat.fold (l' := _) [] h).sub [1, 1, 1, 1, 0, 1] rfl) (WX.thenK (WK.meet ⟨H', e2, _, [], _, [], _, _, _, wp', sts [], hJ4.trans hI6, hb', hbn', rfl, rfl, rfl, by rw [pastHp, hbn', hlen]; rfl, ⟨hH'.mono hI6, by rw [hkw]; exact hw'.mono hI6, Off.nil _ _ _, hv60, by rw [hbn', hlen]; show min _ _ + 0 ≤ _; omega⟩, hK1⟩))))
   ·obtain ⟨y, w0, hy⟩ : ∃ y w0, ws = y :: w0 := by
     cases ws with
     | nil => simp at hx; omega
     | cons y w0 => exact ⟨y, w0, rfl⟩
    subst hy
    have hkw : keep H.bnd (y :: w0 ++ [d]) = w0 ++ [d] := by
     rw [keep, show (y :: w0 ++ [d]).length - H.bnd = 1 by rw [hl1]; omega]; rfl
    obtain ⟨g7, o7, rfl⟩ := hw'.adr (by simp)
    have hw2 : Off EL 54 I5 (y.entries :: (w0 ++ [d]).map Dr.entries) (.slice (some ⟨g7, o7, none⟩) (((w0 ++ [d]).map Dr.entries).length + 1) vc) wp' := by
     rw [List.length_map, List.length_append]; exact hw'
    obtain ⟨hc1, hc2, hw3⟩ := hw2.tail (by simp)
    rw [List.length_map, List.length_append] at hw3 hc2
    have hc3 : (y :: w0).length + 1 ≤ vc := hc2
    refine jA (jB (jB (WC.drawK 999 I5 [1, 1] rfl (by kernel_rfl) rfl rfl ?_)))
    refine WA.take 0 rfl (by kernel_rfl) rfl (fun w h => (h.sub [1, 1] rfl)) (Val.moveP rfl) rfl ?_
    refine WA.take 1 rfl (by kernel_rfl) rfl (fun w h => (h.sub [1, 1] rfl)) (Val.nilCheckP rfl) rfl ?_
    refine WA.take 2 rfl (by kernel_rfl) rfl (fun w h => (h.sub [1, 1] rfl)) (Val.fldAddr rfl) rfl ?_
    refine WA.take 3 rfl (by kernel_rfl) rfl (fun w h => (h.sub [1, 1] rfl)) (Val.loadS rfl (Rd.own1 0 rfl rfl)) rfl ?_
    refine WA.take 4 rfl (by kernel_rfl) rfl (fun w h => (h.sub [1, 1] rfl)) (Val.len rfl) rfl ?_
    refine WA.take 5 rfl (by kernel_rfl) rfl (fun w h => (h.sub [1, 1] rfl)) (Val.moveP rfl) rfl ?_
    refine WA.take 6 rfl (by kernel_rfl) rfl (fun w h => (h.sub [1, 1] rfl)) (Val.nilCheckP rfl) rfl ?_
    refine WA.take 7 rfl (by kernel_rfl) rfl (fun w h => (h.sub [1, 1] rfl)) (Val.fldAddr rfl) rfl ?_
    refine WA.take 8 rfl (by kernel_rfl) rfl (fun w h => (h.sub [1, 1] rfl)) (Val.loadS rfl (Rd.own1 1 rfl rfl)) rfl ?_
    refine WA.take 9 rfl (by kernel_rfl) rfl (fun w h => (h.sub [1, 1] rfl)) (Val.gtr rfl rfl (decide_eq_true (by omega))) rfl ?_
    refine WA.done (by kernel_rfl) ?_
    refine jA (jF (jD (jd rfl (jd rfl (jm (jr rfl) (jm (jn rfl) (jm (jp 1 rfl rfl rfl) (jm (Val.sliceFrom2 (m := 1) rfl rfl (by omega) hc3) ?_))))))))
    rw [if_neg hc1]
    refine jm (jr rfl) (jm (jn rfl) (WL.store 1 rfl rfl rfl ?_))
    refine WL.nSet ?_
    refine jM (jD (jd rfl (jd rfl (jd rfl (WL.callStsR 7 rfl rfl rfl (dEntries D _ _ (hD.mono hI4)) rfl ?_)))))
    rintro v6 I6 hI6 hv6
    have hv60 := hv6
    obtain ⟨e6, f6, rfl⟩ := hv6.sl
    refine jm (jr rfl) (jm (jn rfl) (WL.store 1 rfl rfl rfl ?_))
    refine WL.nSet ?_
    refine jm (jr rfl) (jm (jn rfl) (WL.store 1 rfl rfl rfl ?_))
    refine WL.nSet ?_
    exact jC (WX.inNormal (WX.conv (fun w h => (Sat.fold (l' := _) [] h).sub [1, 1, 1, 1, 0, 1] rfl) (WX.thenK (WK.meet ⟨H', e2, _, [], _, [], _, _, _, wp', sts [], hJ4.trans hI6, hb', hbn', rfl, rfl, rfl, by rw [pastHp, hbn', hlen]; rfl, ⟨hH'.mono hI6, by rw [hkw]; exact hw3.mono hI6, Off.nil _ _ _, hv60, by rw [hbn', hlen]; show min _ _ + 0 ≤ _; omega⟩, hK1⟩))))
  rw [beq_eq_false_iff_ne.2 k1]
  by_cases k2 : a.kind = 2
  ·skip
   refine jE (jS (jw rfl rfl (jg rfl (jM (jF (jS (jd rfl (WL.callAt 2 rfl rfl rfl (sUndoes sb us.length rs.length H.bnd _ (by omega) (by omega)) rfl ?_))))))))
   rintro _ I2 q hI2 ⟨rfl, (⟨h0, rfl, rfl⟩ | ⟨h0, rfl, rfl⟩)⟩
   ·refine WL.nSet ?_
    refine jg rfl (jM (jB (jS (jd rfl (WL.callSts 5 rfl rfl rfl (hUndo H _ _ _ _ _ _ hN hH) rfl ?_)))))
    rintro _ I3 _ hI3 (⟨_, rfl, rfl⟩ | ⟨_, u1, s, _, _, _, e1, _⟩)
    case inr => rw [e1] at h0; simp at h0
    refine WL.nSet ?_
    refine jv rfl rfl (jb rfl (jm (Val.neqB rfl rfl) ?_))
    exact jM (jE (jV (jK (jb rfl (jM (jE (jV (WX.inNormal (WX.conv (fun w h => h.sub [0, 0, 0, 0, 0, 0] rfl) (WX.thenK (WK.meet ⟨H, d, us, rs, ws, ns, _, _, _, wp, np, hI3, rfl, rfl, rfl, rfl, rfl, rfl, hP.mono hI3, hK.more⟩)))))))))))
   refine WL.nSet ?_
   refine jg rfl (jM (jB (jS (jd rfl (WL.callSts 5 rfl rfl rfl (hUndo H _ _ _ _ _ _ hN hH) rfl ?_)))))
   rintro _ I3 _ hI3 (⟨h1, _⟩ | ⟨H', u1, s, w, w1, bs, rfl, rfl, rfl, hb', hbn', rfl, hH'⟩)
   case inl => rw [h1] at h0; exact absurd rfl h0
   rw [if_neg (by decide)] at hH'
   refine WL.nSet ?_
   have hl1 : (w1 ++ [w]).length = w1.length + 1 := by rw [List.length_append]; rfl
   have hl2 : (u1 ++ [s]).length - 1 = u1.length := by rw [List.length_append]; rfl
   have hl3 : (u1 ++ [s]).length = u1.length + 1 := by rw [List.length_append]; rfl
   have hl4 : (ns ++ [d]).length = ns.length + 1 := by rw [List.length_append]; rfl
   have e1 : ((w1.length + 1 : Nat) : Int) - 1 = (w1.length : Int) := by omega
   have hK1 := hK.undo (bs := bs)
   have hkr : keep H.bnd (rs ++ [bs]) = rs ++ [bs] := keep_all (by rw [List.length_append]; show rs.length + 1 ≤ _; omega)
   have hkn : keep H.bnd (ns ++ [d]) = ns ++ [d] := keep_all (by omega)
   rw [hkr, hkn] at hH' hK1
   have hl5 : (rs ++ [bs]).length = rs.length + 1 := by rw [List.length_append]; rfl
   have hPw := hP.w.mono hI3
   have hPn := hP.n.mono hI3
   have hPnow := hP.now.mono hI3
   rw [hl1] at hPw ⊢
   rw [hl2]
   obtain ⟨g8, o8, rfl⟩ := hPw.adr (by simp)
   rw [List.map_append] at hPw
   have hPw2 : Off EL 54 I3 (w1.map Dr.entries ++ [w.entries]) (.slice (some ⟨g8, o8, none⟩) ((w1.map Dr.entries).length + 1) wc) wp := by rw [List.length_map]; exact hPw
   obtain ⟨hcap, hPw3, c8, bt8, cs8, rfl, hget, x8, hx8, hls⟩ := hPw2.init
   injection hx8 with hx8
   subst hx8
   rw [List.length_map] at hcap hPw3 hget
   have hget' : cs8[o8 + (w1.length : Int).toNat * 1]? = some c8 := by rw [Int.toNat_natCast, Nat.mul_one]; exact hget
   obtain ⟨a8, c8', rfl⟩ := hls.sl
   refine jw rfl rfl (jb rfl (jm (Val.neqB rfl rfl) ?_))
   refine jM (jE (jV (jK (jb rfl (jM (jF (jS (jd rfl (jm (jr rfl) (jm (jn rfl) (jm (jp 1 rfl rfl rfl) (jm (jo rfl) (jm (Val.sub rfl rfl (wrap_i64 (by omega) (by omega))) ?_)))))))))))))
   refine jf rfl (jM (jB ?_))
   rw [e1]
   skip
   refine WC.drawK 13 I3 [1] rfl (by kernel_rfl) rfl rfl ?_
   refine WA.take 0 rfl (by kernel_rfl) rfl (fun w h => (h.sub [1] rfl)) (Val.moveP rfl) rfl ?_
   refine WA.take 1 rfl (by kernel_rfl) rfl (fun w h => (h.sub [1] rfl)) (Val.moveP rfl) rfl ?_
   refine WA.take 2 rfl (by kernel_rfl) rfl (fun w h => (h.sub [1] rfl)) (Val.nilCheckP rfl) rfl ?_
   refine WA.take 3 rfl (by kernel_rfl) rfl (fun w h => (h.sub [1] rfl)) (Val.fldAddr rfl) rfl ?_
   refine WA.take 4 rfl (by kernel_rfl) rfl (fun w h => (h.sub [1] rfl)) (Val.loadS rfl (Rd.own1 0 rfl rfl)) rfl ?_
   refine WA.take 5 rfl (by kernel_rfl) rfl (fun w h => (h.sub [1] rfl)) (Val.moveP rfl) rfl ?_
   refine WA.take 6 rfl (by kernel_rfl) rfl (fun w h => (h.sub [1] rfl)) (Val.nilCheckP rfl) rfl ?_
   refine WA.take 7 rfl (by kernel_rfl) rfl (fun w h => (h.sub [1] rfl)) (Val.fldAddr rfl) rfl ?_
   refine WA.take 8 rfl (by kernel_rfl) rfl (fun w h => (h.sub [1] rfl)) (Val.loadS rfl (Rd.own1 0 rfl rfl)) rfl ?_
   refine WA.eff1 (i := 9) (by kernel_rfl) rfl rfl ?_
   refine WL.buildSlice (by with_unfolding_all exact rfl) rfl (by with_unfolding_all exact rfl) rfl (fun _ => ?_)
   rename_i g3
   refine jW ?_
   refine jC (WK.anyStep (fun w h => (h.sub [1] rfl)) ?_)
   refine WA.eff1 (i := 10) (by kernel_rfl) rfl rfl ?_
   refine WL.appOff (y := d.entries) (c := .slice oa d.entries.length oc) 4 7 rfl rfl hPn rfl rfl ⟨_, rfl, hPnow⟩ rfl rfl (by rw [List.length_map]; omega) (by decide) rfl fun v' np' hn' => ?_
   rw [← List.map_singleton (f := Dr.entries), ← List.map_append] at hn'
   obtain ⟨va, vc, hv'⟩ := hn'.sl
   rw [List.length_map, hl4] at hv'
   subst hv'
   refine WL.nSet ?_
   refine jC (WK.anyStep (fun w h => (h.sub [1] rfl)) ?_)
   refine WA.eff1 (i := 11) (by kernel_rfl) rfl rfl ?_
   refine jm (jr rfl) (jC (WK.anyStep (fun w h => (h.sub [1] rfl)) ?_))
   refine WA.eff1 (i := 12) (by kernel_rfl) rfl rfl ?_
   refine jm (jn rfl) (jC (WK.anyStep (fun w h => (h.sub [1] rfl)) ?_))
   refine WA.eff1 (i := 13) (by kernel_rfl) rfl rfl ?_
   refine WL.storeAt 1 rfl rfl rfl rfl rfl (Nat.succ_lt_succ (Nat.zero_lt_succ _)) ?_
   refine WL.nSet ?_
   refine jC (WK.anyLast ?_)
   refine WA.done (by kernel_rfl) ?_
   refine jA (WC.draw 20 I3 [Sl.bx pb 106 (fun cs => ∃ u, cs = [.slice (some ⟨g8, o8, none⟩) (w1.length + 1) wc, .slice va (ns.length + 1) vc, u]), Sl.box g8 bt8 cs8] (by kernel_rfl) rfl rfl ?_)
   refine WA.take 0 rfl (by kernel_rfl) rfl (fun w h => Sat.bx (h.sub [1, 2] rfl) ⟨_, rfl⟩) (Val.moveP rfl) rfl ?_
   refine WA.take 2 rfl (by kernel_rfl) rfl (fun w h => Sat.bx (h.sub [1, 2] rfl) ⟨_, rfl⟩) (Val.moveP rfl) rfl ?_
   refine WA.take 3 rfl (by kernel_rfl) rfl (fun w h => Sat.bx (h.sub [1, 2] rfl) ⟨_, rfl⟩) (Val.nilCheckP rfl) rfl ?_
   refine WA.take 4 rfl (by kernel_rfl) rfl (fun w h => Sat.bx (h.sub [1, 2] rfl) ⟨_, rfl⟩) (Val.fldAddr rfl) rfl ?_
   refine WA.take 5 rfl (by kernel_rfl) rfl (fun w h => Sat.bx (h.sub [1, 2] rfl) ⟨_, rfl⟩) (Val.loadS rfl (Rd.bx 0 rfl (fun cs ⟨u, h⟩ => by rw [h]; rfl))) rfl ?_
   refine WA.take 6 rfl (by kernel_rfl) rfl (fun w h => Sat.bx (h.sub [1, 2] rfl) ⟨_, rfl⟩) (Val.moveI rfl) rfl ?_
   refine WA.take 7 rfl (by kernel_rfl) rfl (fun w h => Sat.bx (h.sub [1, 2] rfl) ⟨_, rfl⟩) (Val.indexAddr rfl rfl (by omega) (by omega)) rfl ?_
   refine WA.take 8 rfl (by kernel_rfl) rfl (fun w h => Sat.bx (h.sub [1, 2] rfl) ⟨_, rfl⟩) (Val.loadS rfl (Rd.own1 1 rfl hget')) rfl ?_
   refine WA.take 9 rfl (by kernel_rfl) rfl (fun w h => Sat.bx (h.sub [1, 2] rfl) ⟨_, rfl⟩) (Val.moveP rfl) rfl ?_
   refine WA.take 10 rfl (by kernel_rfl) rfl (fun w h => Sat.bx (h.sub [1, 2] rfl) ⟨_, rfl⟩) (Val.nilCheckP rfl) rfl ?_
   refine WA.take 11 rfl (by kernel_rfl) rfl (fun w h => Sat.bx (h.sub [1, 2] rfl) ⟨_, rfl⟩) (Val.fldAddr rfl) rfl ?_
   refine WA.take 12 rfl (by kernel_rfl) rfl (fun w h => Sat.bx (h.sub [1, 2] rfl) ⟨_, rfl⟩) (Val.loadS rfl (Rd.bx 0 rfl (fun cs ⟨u, h⟩ => by rw [h]; rfl))) rfl ?_
   refine WA.take 13 rfl (by kernel_rfl) rfl (fun w h => Sat.bx (h.sub [1, 2] rfl) ⟨_, rfl⟩) (Val.moveI rfl) rfl ?_
   refine WA.take 14 rfl (by kernel_rfl) rfl (fun w h => Sat.bx (h.sub [1, 2] rfl) ⟨_, rfl⟩) (Val.sliceTo (m := w1.length) rfl rfl (by omega)) rfl ?_
   refine WA.eff2 (i := 1) (j := 15) (by kernel_rfl) rfl rfl rfl rfl ?_ ?_
   ·skip
    refine jd rfl (jC (WK.anyStep (fun w h => Sat.bx (h.sub [1, 2] rfl) ⟨_, rfl⟩) ?_))
    refine WA.eff1 (i := 15) (by kernel_rfl) rfl rfl ?_
    refine jm (jr rfl) (jC (WK.anyStep (fun w h => Sat.bx (h.sub [1, 2] rfl) ⟨_, rfl⟩) ?_))
    refine WA.eff1 (i := 16) (by kernel_rfl) rfl rfl ?_
    refine jm (jn rfl) (jC (WK.anyStep (fun w h => Sat.bx (h.sub [1, 2] rfl) ⟨_, rfl⟩) ?_))
    refine WA.eff1 (i := 17) (by kernel_rfl) rfl rfl ?_
    refine WL.storeAt 1 rfl rfl rfl rfl rfl (Nat.lt_succ_self _) ?_
    refine WL.nSet ?_
    refine jC (WK.anyStep (fun w h => Sat.bx (h.sub [1, 2] rfl) ⟨_, rfl⟩) ?_)
    refine WA.eff1 (i := 18) (by kernel_rfl) rfl rfl ?_
    refine jm (jr rfl) (jC (WK.anyStep (fun w h => Sat.bx (h.sub [1, 2] rfl) ⟨_, rfl⟩) ?_))
    refine WA.eff1 (i := 19) (by kernel_rfl) rfl rfl ?_
    refine jm (jn rfl) (jC (WK.anyStep (fun w h => Sat.bx (h.sub [1, 2] rfl) ⟨_, rfl⟩) ?_))
    refine WA.eff1 (i := 20) (by kernel_rfl) rfl rfl ?_
    refine WL.storeAt 1 rfl rfl rfl rfl rfl (Nat.zero_lt_succ _) ?_
    refine WL.nSet ?_
    refine jC (WK.anyLast ?_)
    refine WA.done (by kernel_rfl) ?_
    exact WX.inNormal (WX.conv (fun w h => h.sub [0, 0, 0, 0, 0, 0] rfl) (WX.thenK (WK.meet ⟨H', w, u1, _, w1, _, _, _, _, _, np', hI3, hb', hbn', rfl, rfl, rfl, by rw [pastHp, hbn', hl5]; rfl, ⟨hH', hPw3, hn', hls, by rw [hbn', hl5]; omega⟩, hK1⟩)))
   ·skip
    refine jm (jr rfl) (jC (WK.anyStep (fun w h => Sat.bx (h.sub [1, 2] rfl) ⟨_, rfl⟩) ?_))
    refine WA.eff2 (i := 1) (j := 16) (by kernel_rfl) rfl rfl rfl rfl ?_ ?_
    ·skip
     refine jd rfl (jC (WK.anyStep (fun w h => Sat.bx (h.sub [1, 2] rfl) ⟨_, rfl⟩) ?_))
     refine WA.eff1 (i := 16) (by kernel_rfl) rfl rfl ?_
     refine jm (jn rfl) (jC (WK.anyStep (fun w h => Sat.bx (h.sub [1, 2] rfl) ⟨_, rfl⟩) ?_))
     refine WA.eff1 (i := 17) (by kernel_rfl) rfl rfl ?_
     refine WL.storeAt 1 rfl rfl rfl rfl rfl (Nat.lt_succ_self _) ?_
     refine WL.nSet ?_
     refine jC (WK.anyStep (fun w h => Sat.bx (h.sub [1, 2] rfl) ⟨_, rfl⟩) ?_)
     refine WA.eff1 (i := 18) (by kernel_rfl) rfl rfl ?_
     refine jm (jr rfl) (jC (WK.anyStep (fun w h => Sat.bx (h.sub [1, 2] rfl) ⟨_, rfl⟩) ?_))
     refine WA.eff1 (i := 19) (by kernel_rfl) rfl rfl ?_
     refine jm (jn rfl) (jC (WK.anyStep (fun w h => Sat.bx (h.sub [1, 2] rfl) ⟨_, rfl⟩) ?_))
     refine WA.eff1 (i := 20) (by kernel_rfl) rfl rfl ?_
     refine WL.storeAt 1 rfl rfl rfl rfl rfl (Nat.zero_lt_succ _) ?_
     refine WL.nSet ?_
     refine jC (WK.anyLast ?_)
     refine WA.done (by kernel_rfl) ?_
     exact WX.inNormal (WX.conv (fun w h => h.sub [0, 0, 0, 0, 0, 0] rfl) (WX.thenK (WK.meet ⟨H', w, u1, _, w1, _, _, _, _, _, np', hI3, hb', hbn', rfl, rfl, rfl, by rw [pastHp, hbn', hl5]; rfl, ⟨hH', hPw3, hn', hls, by rw [hbn', hl5]; omega⟩, hK1⟩)))
    ·skip
     refine jm (jn rfl) (jC (WK.anyStep (fun w h => Sat.bx (h.sub [1, 2] rfl) ⟨_, rfl⟩) ?_))
     refine WA.eff2 (i := 1) (j := 17) (by kernel_rfl) rfl rfl rfl rfl ?_ ?_
     ·skip
      refine jd rfl (jC (WK.anyStep (fun w h => Sat.bx (h.sub [1, 2] rfl) ⟨_, rfl⟩) ?_))
      refine WA.eff1 (i := 17) (by kernel_rfl) rfl rfl ?_
      refine WL.storeAt 1 rfl rfl rfl rfl rfl (Nat.lt_succ_self _) ?_
      refine WL.nSet ?_
      refine jC (WK.anyStep (fun w h => Sat.bx (h.sub [1, 2] rfl) ⟨_, rfl⟩) ?_)
      refine WA.eff1 (i := 18) (by kernel_rfl) rfl rfl ?_
      refine jm (jr rfl) (jC (WK.anyStep (fun w h => Sat.bx (h.sub [1, 2] rfl) ⟨_, rfl⟩) ?_))
      refine WA.eff1 (i := 19) (by kernel_rfl) rfl rfl ?_
      refine jm (jn rfl) (jC (WK.anyStep (fun w h => Sat.bx (h.sub [1, 2] rfl) ⟨_, rfl⟩) ?_))
      refine WA.eff1 (i := 20) (by kernel_rfl) rfl rfl ?_
      refine WL.storeAt 1 rfl rfl rfl rfl rfl (Nat.zero_lt_succ _) ?_
      refine WL.nSet ?_
      refine jC (WK.anyLast ?_)
      refine WA.done (by kernel_rfl) ?_
      exact WX.inNormal (WX.conv (fun w h => h.sub [0, 0, 0, 0, 0, 0] rfl) (WX.thenK (WK.meet ⟨H', w, u1, _, w1, _, _, _, _, _, np', hI3, hb', hbn', rfl, rfl, rfl, by rw [pastHp, hbn', hl5]; rfl, ⟨hH', hPw3, hn', hls, by rw [hbn', hl5]; omega⟩, hK1⟩)))
     ·skip
      refine WL.storeAt 1 rfl rfl rfl rfl rfl (Nat.lt_succ_self _) ?_
      refine WL.nSet ?_
      refine jC (WK.anyStep (fun w h => Sat.bx (h.sub [1, 2] rfl) ⟨_, rfl⟩) ?_)
      refine WA.eff1 (i := 1) (by kernel_rfl) rfl rfl ?_
      refine jd rfl (jC (WK.anyStep (fun w h => Sat.bx (h.sub [1, 2] rfl) ⟨_, rfl⟩) ?_))
      refine WA.eff1 (i := 18) (by kernel_rfl) rfl rfl ?_
      refine jm (jr rfl) (jC (WK.anyStep (fun w h => Sat.bx (h.sub [1, 2] rfl) ⟨_, rfl⟩) ?_))
      refine WA.eff1 (i := 19) (by kernel_rfl) rfl rfl ?_
      refine jm (jn rfl) (jC (WK.anyStep (fun w h => Sat.bx (h.sub [1, 2] rfl) ⟨_, rfl⟩) ?_))
      refine WA.eff1 (i := 20) (by kernel_rfl) rfl rfl ?_
      refine WL.storeAt 1 rfl rfl rfl rfl rfl (Nat.zero_lt_succ _) ?_
      refine WL.nSet ?_
      refine jC (WK.anyLast ?_)
      refine WA.done (by kernel_rfl) ?_
      exact WX.inNormal (WX.conv (fun w h => h.sub [0, 0, 0, 0, 0, 0] rfl) (WX.thenK (WK.meet ⟨H', w, u1, _, w1, _, _, _, _, _, np', hI3, hb', hbn', rfl, rfl, rfl, by rw [pastHp, hbn', hl5]; rfl, ⟨hH', hPw3, hn', hls, by rw [hbn', hl5]; omega⟩, hK1⟩)))
  by_cases k3 : a.kind = 3
  ·skip
   refine jE (jCf rfl rfl (jS (jw rfl rfl (jg rfl (jM (jF (jS (jd rfl (WL.callAt 2 rfl rfl rfl (sRedoes sb us.length rs.length H.bnd _ (by omega) (by omega)) rfl ?_)))))))))
   rintro _ I2 q hI2 ⟨rfl, (⟨h0, rfl, rfl⟩ | ⟨h0, rfl, rfl⟩)⟩
   ·refine WL.nSet ?_
    refine jg rfl (jM (jB (jS (jd rfl (WL.callSts 5 rfl rfl rfl (hRedo H _ _ _ _ _ _ hN hH) rfl ?_)))))
    rintro _ I3 _ hI3 (⟨_, rfl, rfl⟩ | ⟨_, u1, s, _, _, _, e1, _⟩)
    case inr => rw [e1] at h0; simp at h0
    refine WL.nSet ?_
    refine jv rfl rfl (jb rfl (jm (Val.neqB rfl rfl) ?_))
    exact jM (jE (jV (jK (jb rfl (jM (jE (jV (WX.inNormal (WX.conv (fun w h => h.sub [0, 0, 0, 0, 0, 0] rfl) (WX.thenK (WK.meet ⟨H, d, us, rs, ws, ns, _, _, _, wp, np, hI3, rfl, rfl, rfl, rfl, rfl, rfl, hP.mono hI3, hK.more⟩)))))))))))
   refine WL.nSet ?_
   refine jg rfl (jM (jB (jS (jd rfl (WL.callSts 5 rfl rfl rfl (hRedo H _ _ _ _ _ _ hN hH) rfl ?_)))))
   rintro _ I3 _ hI3 (⟨h1, _⟩ | ⟨H', u1, s, w, w1, bs, rfl, rfl, rfl, hb', hbn', rfl, hH'⟩)
   case inl => rw [h1] at h0; exact absurd rfl h0
   rw [if_pos rfl] at hH'
   refine WL.nSet ?_
   have hl1 : (w1 ++ [w]).length = w1.length + 1 := by rw [List.length_append]; rfl
   have hl2 : (u1 ++ [s]).length - 1 = u1.length := by rw [List.length_append]; rfl
   have hl3 : (u1 ++ [s]).length = u1.length + 1 := by rw [List.length_append]; rfl
   have hl4 : (ws ++ [d]).length = ws.length + 1 := by rw [List.length_append]; rfl
   have e1 : ((w1.length + 1 : Nat) : Int) - 1 = (w1.length : Int) := by omega
   have hK1 := hK.redo (bs := bs) hwl
   have hkr : keep H.bnd (us ++ [bs]) = us ++ [bs] := keep_all (by rw [List.length_append]; show us.length + 1 ≤ _; omega)
   have hkn : keep H.bnd (ws ++ [d]) = ws ++ [d] := keep_all (by omega)
   rw [hkr, hkn] at hH' hK1
   have hl5 : (us ++ [bs]).length = us.length + 1 := by rw [List.length_append]; rfl
   have hPw := hP.w.mono hI3
   have hPn := hP.n.mono hI3
   have hPnow := hP.now.mono hI3
   rw [hl1] at hPn ⊢
   rw [hl2]
   obtain ⟨g8, o8, rfl⟩ := hPn.adr (by simp)
   rw [List.map_append] at hPn
   have hPw2 : Off EL 54 I3 (w1.map Dr.entries ++ [w.entries]) (.slice (some ⟨g8, o8, none⟩) ((w1.map Dr.entries).length + 1) nc) np := by rw [List.length_map]; exact hPn
   obtain ⟨hcap, hPw3, c8, bt8, cs8, rfl, hget, x8, hx8, hls⟩ := hPw2.init
   injection hx8 with hx8
   subst hx8
   rw [List.length_map] at hcap hPw3 hget
   have hget' : cs8[o8 + (w1.length : Int).toNat * 1]? = some c8 := by rw [Int.toNat_natCast, Nat.mul_one]; exact hget
   obtain ⟨a8, c8', rfl⟩ := hls.sl
   refine jw rfl rfl (jb rfl (jm (Val.neqB rfl rfl) ?_))
   refine jM (jE (jV (jK (jb rfl (jM (jF (jS (jd rfl (jm (jr rfl) (jm (jn rfl) (jm (jp 1 rfl rfl rfl) (jm (jo rfl) (jm (Val.sub rfl rfl (wrap_i64 (by omega) (by omega))) ?_)))))))))))))
   refine jf rfl (jM (jB ?_))
   rw [e1]
   skip
   refine WC.drawK 13 I3 [1] rfl (by kernel_rfl) rfl rfl ?_
   refine WA.take 0 rfl (by kernel_rfl) rfl (fun w h => (h.sub [1] rfl)) (Val.moveP rfl) rfl ?_
   refine WA.take 1 rfl (by kernel_rfl) rfl (fun w h => (h.sub [1] rfl)) (Val.moveP rfl) rfl ?_
   refine WA.take 2 rfl (by kernel_rfl) rfl (fun w h => (h.sub [1] rfl)) (Val.nilCheckP rfl) rfl ?_
   refine WA.take 3 rfl (by kernel_rfl) rfl (fun w h => (h.sub [1] rfl)) (Val.fldAddr rfl) rfl ?_
   refine WA.take 4 rfl (by kernel_rfl) rfl (fun w h => (h.sub [1] rfl)) (Val.loadS rfl (Rd.own1 0 rfl rfl)) rfl ?_
   refine WA.take 5 rfl (by kernel_rfl) rfl (fun w h => (h.sub [1] rfl)) (Val.moveP rfl) rfl ?_
   refine WA.take 6 rfl (by kernel_rfl) rfl (fun w h => (h.sub [1] rfl)) (Val.nilCheckP rfl) rfl ?_
   refine WA.take 7 rfl (by kernel_rfl) rfl (fun w h => (h.sub [1] rfl)) (Val.fldAddr rfl) rfl ?_
   refine WA.take 8 rfl (by kernel_rfl) rfl (fun w h => (h.sub [1] rfl)) (Val.loadS rfl (Rd.own1 0 rfl rfl)) rfl ?_
   refine WA.eff1 (i := 9) (by kernel_rfl) rfl rfl ?_
   refine WL.buildSlice (by with_unfolding_all exact rfl) rfl (by with_unfolding_all exact rfl) rfl (fun _ => ?_)
   rename_i g3
   refine jW ?_
   refine jC (WK.anyStep (fun w h => (h.sub [1] rfl)) ?_)
   refine WA.eff1 (i := 10) (by kernel_rfl) rfl rfl ?_
   refine WL.appOff (y := d.entries) (c := .slice oa d.entries.length oc) 3 7 rfl rfl hPw rfl rfl ⟨_, rfl, hPnow⟩ rfl rfl (by rw [List.length_map]; omega) (by decide) rfl fun v' wp' hn' => ?_
   rw [← List.map_singleton (f := Dr.entries), ← List.map_append] at hn'
   obtain ⟨va, vc, hv'⟩ := hn'.sl
   rw [List.length_map, hl4] at hv'
   subst hv'
   refine WL.nSet ?_
   refine jC (WK.anyStep (fun w h => (h.sub [1] rfl)) ?_)
   refine WA.eff1 (i := 11) (by kernel_rfl) rfl rfl ?_
   refine jm (jr rfl) (jC (WK.anyStep (fun w h => (h.sub [1] rfl)) ?_))
   refine WA.eff1 (i := 12) (by kernel_rfl) rfl rfl ?_
   refine jm (jn rfl) (jC (WK.anyStep (fun w h => (h.sub [1] rfl)) ?_))
   refine WA.eff1 (i := 13) (by kernel_rfl) rfl rfl ?_
   refine WL.storeAt 1 rfl rfl rfl rfl rfl (Nat.zero_lt_succ _) ?_
   refine WL.nSet ?_
   refine jC (WK.anyLast ?_)
   refine WA.done (by kernel_rfl) ?_
   refine jA (WC.draw 20 I3 [Sl.bx pb 106 (fun cs => ∃ u, cs = [.slice va (ws.length + 1) vc, .slice (some ⟨g8, o8, none⟩) (w1.length + 1) nc, u]), Sl.box g8 bt8 cs8] (by kernel_rfl) rfl rfl ?_)
   refine WA.take 0 rfl (by kernel_rfl) rfl (fun w h => Sat.bx (h.sub [1, 3] rfl) ⟨_, rfl⟩) (Val.moveP rfl) rfl ?_
   refine WA.take 2 rfl (by kernel_rfl) rfl (fun w h => Sat.bx (h.sub [1, 3] rfl) ⟨_, rfl⟩) (Val.moveP rfl) rfl ?_
   refine WA.take 3 rfl (by kernel_rfl) rfl (fun w h => Sat.bx (h.sub [1, 3] rfl) ⟨_, rfl⟩) (Val.nilCheckP rfl) rfl ?_
   refine WA.take 4 rfl (by kernel_rfl) rfl (fun w h => Sat.bx (h.sub [1, 3] rfl) ⟨_, rfl⟩) (Val.fldAddr rfl) rfl ?_
   refine WA.take 5 rfl (by kernel_rfl) rfl (fun w h => Sat.bx (h.sub [1, 3] rfl) ⟨_, rfl⟩) (Val.loadS rfl (Rd.bx 0 rfl (fun cs ⟨u, h⟩ => by rw [h]; rfl))) rfl ?_
   refine WA.take 6 rfl (by kernel_rfl) rfl (fun w h => Sat.bx (h.sub [1, 3] rfl) ⟨_, rfl⟩) (Val.moveI rfl) rfl ?_
   refine WA.take 7 rfl (by kernel_rfl) rfl (fun w h => Sat.bx (h.sub [1, 3] rfl) ⟨_, rfl⟩) (Val.indexAddr rfl rfl (by omega) (by omega)) rfl ?_
   refine WA.take 8 rfl (by kernel_rfl) rfl (fun w h => Sat.bx (h.sub [1, 3] rfl) ⟨_, rfl⟩) (Val.loadS rfl (Rd.own1 1 rfl hget')) rfl ?_
   refine WA.take 9 rfl (by kernel_rfl) rfl (fun w h => Sat.bx (h.sub [1, 3] rfl) ⟨_, rfl⟩) (Val.moveP rfl) rfl ?_
   refine WA.take 10 rfl (by kernel_rfl) rfl (fun w h => Sat.bx (h.sub [1, 3] rfl) ⟨_, rfl⟩) (Val.nilCheckP rfl) rfl ?_
   refine WA.take 11 rfl (by kernel_rfl) rfl (fun w h => Sat.bx (h.sub [1, 3] rfl) ⟨_, rfl⟩) (Val.fldAddr rfl) rfl ?_
   refine WA.take 12 rfl (by kernel_rfl) rfl (fun w h => Sat.bx (h.sub [1, 3] rfl) ⟨_, rfl⟩) (Val.loadS rfl (Rd.bx 0 rfl (fun cs ⟨u, h⟩ => by rw [h]; rfl))) rfl ?_
   refine WA.take 13 rfl (by kernel_rfl) rfl (fun w h => Sat.bx (h.sub [1, 3] rfl) ⟨_, rfl⟩) (Val.moveI rfl) rfl ?_
   refine WA.take 14 rfl (by kernel_rfl) rfl (fun w h => Sat.bx (h.sub [1, 3] rfl) ⟨_, rfl⟩) (Val.sliceTo (m := w1.length) rfl rfl (by omega)) rfl ?_
   refine WA.eff2 (i := 1) (j := 15) (by kernel_rfl) rfl rfl rfl rfl ?_ ?_
   ·skip
    refine jd rfl (jC (WK.anyStep (fun w h => Sat.bx (h.sub [1, 3] rfl) ⟨_, rfl⟩) ?_))
    refine WA.eff1 (i := 15) (by kernel_rfl) rfl rfl ?_
    refine jm (jr rfl) (jC (WK.anyStep (fun w h => Sat.bx (h.sub [1, 3] rfl) ⟨_, rfl⟩) ?_))
    refine WA.eff1 (i := 16) (by kernel_rfl) rfl rfl ?_
    refine jm (jn rfl) (jC (WK.anyStep (fun w h => Sat.bx (h.sub [1, 3] rfl) ⟨_, rfl⟩) ?_))
    refine WA.eff1 (i := 17) (by kernel_rfl) rfl rfl ?_
    refine WL.storeAt 1 rfl rfl rfl rfl rfl (Nat.lt_succ_self _) ?_
    refine WL.nSet ?_
    refine jC (WK.anyStep (fun w h => Sat.bx (h.sub [1, 3] rfl) ⟨_, rfl⟩) ?_)
    refine WA.eff1 (i := 18) (by kernel_rfl) rfl rfl ?_
    refine jm (jr rfl) (jC (WK.anyStep (fun w h => Sat.bx (h.sub [1, 3] rfl) ⟨_, rfl⟩) ?_))
    refine WA.eff1 (i := 19) (by kernel_rfl) rfl rfl ?_
    refine jm (jn rfl) (jC (WK.anyStep (fun w h => Sat.bx (h.sub [1, 3] rfl) ⟨_, rfl⟩) ?_))
    refine WA.eff1 (i := 20) (by kernel_rfl) rfl rfl ?_
    refine WL.storeAt 1 rfl rfl rfl rfl rfl (Nat.succ_lt_succ (Nat.zero_lt_succ _)) ?_
    refine WL.nSet ?_
    refine jC (WK.anyLast ?_)
    refine WA.done (by kernel_rfl) ?_
    exact WX.inNormal (WX.conv (fun w h => h.sub [0, 0, 0, 0, 0, 0] rfl) (WX.thenK (WK.meet ⟨H', w, _, u1, _, w1, _, _, _, wp', _, hI3, hb', hbn', rfl, rfl, rfl, by rw [pastHp, hbn', hl5]; rfl, ⟨hH', hn', hPw3, hls, by rw [hbn', hl5]; omega⟩, hK1⟩)))
   ·skip
    refine jm (jr rfl) (jC (WK.anyStep (fun w h => Sat.bx (h.sub [1, 3] rfl) ⟨_, rfl⟩) ?_))
    refine WA.eff2 (i := 1) (j := 16) (by kernel_rfl) rfl rfl rfl rfl ?_ ?_
    ·skip
     refine jd rfl (jC (WK.anyStep (fun w h => Sat.bx (h.sub [1, 3] rfl) ⟨_, rfl⟩) ?_))
     refine WA.eff1 (i := 16) (by kernel_rfl) rfl rfl ?_
     refine jm (jn rfl) (jC (WK.anyStep (fun w h => Sat.bx (h.sub [1, 3] rfl) ⟨_, rfl⟩) ?_))
     refine WA.eff1 (i := 17) (by kernel_rfl) rfl rfl ?_
     refine WL.storeAt 1 rfl rfl rfl rfl rfl (Nat.lt_succ_self _) ?_
     refine WL.nSet ?_
     refine jC (WK.anyStep (fun w h => Sat.bx (h.sub [1, 3] rfl) ⟨_, rfl⟩) ?_)
     refine WA.eff1 (i := 18) (by kernel_rfl) rfl rfl ?_
     refine jm (jr rfl) (jC (WK.anyStep (fun w h => Sat.bx (h.sub [1, 3] rfl) ⟨_, rfl⟩) ?_))
     refine WA.eff1 (i := 19) (by kernel_rfl) rfl rfl ?_
     refine jm (jn rfl) (jC (WK.anyStep (fun w h => Sat.bx (h.sub [1, 3] rfl) ⟨_, rfl⟩) ?_))
     refine WA.eff1 (i := 20) (by kernel_rfl) rfl rfl ?_
     refine WL.storeAt 1 rfl rfl rfl rfl rfl (Nat.succ_lt_succ (Nat.zero_lt_succ _)) ?_
     refine WL.nSet ?_
     refine jC (WK.anyLast ?_)
     refine WA.done (by kernel_rfl) ?_
     exact WX.inNormal (WX.conv (fun w h => h.sub [0, 0, 0, 0, 0, 0] rfl) (WX.thenK (WK.meet ⟨H', w, _, u1, _, w1, _, _, _, wp', _, hI3, hb', hbn', rfl, rfl, rfl, by rw [pastHp, hbn', hl5]; rfl, ⟨hH', hn', hPw3, hls, by rw [hbn', hl5]; omega⟩, hK1⟩)))
    ·skip
     refine jm (jn rfl) (jC (WK.anyStep (fun w h => Sat.bx (h.sub [1, 3] rfl) ⟨_, rfl⟩) ?_))
     refine WA.eff2 (i := 1) (j := 17) (by kernel_rfl) rfl rfl rfl rfl ?_ ?_
     ·skip
      refine jd rfl (jC (WK.anyStep (fun w h => Sat.bx (h.sub [1, 3] rfl) ⟨_, rfl⟩) ?_))
      refine WA.eff1 (i := 17) (by kernel_rfl) rfl rfl ?_
      refine WL.storeAt 1 rfl rfl rfl rfl rfl (Nat.lt_succ_self _) ?_
      refine WL.nSet ?_
      refine jC (WK.anyStep (fun w h => Sat.bx (h.sub [1, 3] rfl) ⟨_, rfl⟩) ?_)
      refine WA.eff1 (i := 18) (by kernel_rfl) rfl rfl ?_
      refine jm (jr rfl) (jC (WK.anyStep (fun w h => Sat.bx (h.sub [1, 3] rfl) ⟨_, rfl⟩) ?_))
      refine WA.eff1 (i := 19) (by kernel_rfl) rfl rfl ?_
      refine jm (jn rfl) (jC (WK.anyStep (fun w h => Sat.bx (h.sub [1, 3] rfl) ⟨_, rfl⟩) ?_))
      refine WA.eff1 (i := 20) (by kernel_rfl) rfl rfl ?_
      refine WL.storeAt 1 rfl rfl rfl rfl rfl (Nat.succ_lt_succ (Nat.zero_lt_succ _)) ?_
      refine WL.nSet ?_
      refine jC (WK.anyLast ?_)
      refine WA.done (by kernel_rfl) ?_
      exact WX.inNormal (WX.conv (fun w h => h.sub [0, 0, 0, 0, 0, 0] rfl) (WX.thenK (WK.meet ⟨H', w, _, u1, _, w1, _, _, _, wp', _, hI3, hb', hbn', rfl, rfl, rfl, by rw [pastHp, hbn', hl5]; rfl, ⟨hH', hn', hPw3, hls, by rw [hbn', hl5]; omega⟩, hK1⟩)))
     ·skip
      refine WL.storeAt 1 rfl rfl rfl rfl rfl (Nat.lt_succ_self _) ?_
      refine WL.nSet ?_
      refine jC (WK.anyStep (fun w h => Sat.bx (h.sub [1, 3] rfl) ⟨_, rfl⟩) ?_)
      refine WA.eff1 (i := 1) (by kernel_rfl) rfl rfl ?_
      refine jd rfl (jC (WK.anyStep (fun w h => Sat.bx (h.sub [1, 3] rfl) ⟨_, rfl⟩) ?_))
      refine WA.eff1 (i := 18) (by kernel_rfl) rfl rfl ?_
      refine jm (jr rfl) (jC (WK.anyStep (fun w h => Sat.bx (h.sub [1, 3] rfl) ⟨_, rfl⟩) ?_))
      refine WA.eff1 (i := 19) (by kernel_rfl) rfl rfl ?_
      refine jm (jn rfl) (jC (WK.anyStep (fun w h => Sat.bx (h.sub [1, 3] rfl) ⟨_, rfl⟩) ?_))
      refine WA.eff1 (i := 20) (by kernel_rfl) rfl rfl ?_
      refine WL.storeAt 1 rfl rfl rfl rfl rfl (Nat.succ_lt_succ (Nat.zero_lt_succ _)) ?_
      refine WL.nSet ?_
      refine jC (WK.anyLast ?_)
      refine WA.done (by kernel_rfl) ?_
      exact WX.inNormal (WX.conv (fun w h => h.sub [0, 0, 0, 0, 0, 0] rfl) (WX.thenK (WK.meet ⟨H', w, _, u1, _, w1, _, _, _, wp', _, hI3, hb', hbn', rfl, rfl, rfl, by rw [pastHp, hbn', hl5]; rfl, ⟨hH', hn', hPw3, hls, by rw [hbn', hl5]; omega⟩, hK1⟩)))
  exact jE (jCf rfl rfl (jCf rfl rfl (jV (WX.inNormal (WX.conv (fun w h => h.sub [0, 0, 0, 0, 0, 0] rfl) (WX.thenK (WK.meet ⟨H, d, us, rs, ws, ns, _, _, _, wp, np, Mem.le.refl _, rfl, rfl, rfl, rfl, rfl, rfl, hP, hK.more⟩)))))))
 clear hH hul hrl hwl hnl hsum hseg hac0 hac hnow0
 rintro ρ' I2 L' ⟨H2, d2, us2, rs2, ws2, ns2, wv2, nv2, nowv2, wp2, np2, hI2, hb2', hbn2, q0, q1, q2, rfl, hP2, hK2⟩
 refine ju3 q2 q1 q0 ?_
 rw [← hb2']
 change WC _ _ _ _ [F, box pb 106 [wv2, nv2, nowv2], box sb 102 [vi us2.length, vi rs2.length, vi H2.bnd], wp2, np2, sts (Hm.hp H2)] _
 have hnow2 := hP2.now
 obtain ⟨oa2, oc2, rfl⟩ := hnow2.sl
 refine jB (WC.drawK 999 I2 [1, 1] rfl (by kernel_rfl) rfl rfl ?_)
 refine WA.take 0 rfl (by kernel_rfl) rfl (fun w h => (h.sub [1, 1] rfl)) (Val.moveP rfl) rfl ?_
 refine WA.take 3 rfl (by kernel_rfl) rfl (fun w h => (h.sub [1, 1] rfl)) (Val.moveP rfl) rfl ?_
 refine WA.take 4 rfl (by kernel_rfl) rfl (fun w h => (h.sub [1, 1] rfl)) (Val.nilCheckP rfl) rfl ?_
 refine WA.take 5 rfl (by kernel_rfl) rfl (fun w h => (h.sub [1, 1] rfl)) (Val.fldAddr rfl) rfl ?_
 refine WA.take 6 rfl (by kernel_rfl) rfl (fun w h => (h.sub [1, 1] rfl)) (Val.loadS rfl (Rd.own1 0 rfl rfl)) rfl ?_
 refine WA.eff1 (i := 1) (by kernel_rfl) rfl rfl ?_
 refine WL.callSts 5 rfl rfl rfl (hDoc H2 _ _ _ _ _ _ hP2.h) rfl ?_
 rintro _ I3 _ _ ⟨rfl, D3, rfl, rfl, hD3⟩
 refine WL.nSet ?_
 refine WL.splitSts 5 rfl ?_
 change WL _ _ _ _ _ [F, _, _, _, _, _, _] _
 refine jC (WK.anyStep (fun w h => (h.sub [1, 1] rfl)) ?_)
 refine WA.eff1 (i := 2) (by kernel_rfl) rfl rfl ?_
 refine WL.callStsR 6 rfl rfl rfl (dEntries D3 _ _ hD3) rfl ?_
 rintro v3 I4 hI4 hv3
 refine jC (WK.anyStep (fun w h => (h.sub [1, 1] rfl).less (hI4)) ?_)
 refine WA.eff1 (i := 7) (by kernel_rfl) rfl rfl ?_
 refine WL.callE rfl rfl (eqSame _ _ _ _ _ hv3 (hnow2.mono hI4)) rfl (fun he => ?_) (fun he => absurd rfl he)
 refine jC (WK.anyStep (fun w h => (h.sub [1, 1] rfl).less (hI4)) ?_)
 refine WA.take 8 rfl (by kernel_rfl) rfl (fun w h => (h.sub [1, 1] rfl).less (hI4)) (Val.moveB rfl) rfl ?_
 refine WA.takeGT 9 rfl (by kernel_rfl) rfl (fun w h => (h.sub [1, 1] rfl).less (hI4)) rfl rfl (Val.moveP rfl) rfl ?_
 refine WA.takeGT 11 rfl (by kernel_rfl) rfl (fun w h => (h.sub [1, 1] rfl).less (hI4)) rfl rfl (Val.moveP rfl) rfl ?_
 refine WA.takeGT 12 rfl (by kernel_rfl) rfl (fun w h => (h.sub [1, 1] rfl).less (hI4)) rfl rfl (Val.nilCheckP rfl) rfl ?_
 refine WA.takeGT 13 rfl (by kernel_rfl) rfl (fun w h => (h.sub [1, 1] rfl).less (hI4)) rfl rfl (Val.fldAddr rfl) rfl ?_
 refine WA.takeGT 14 rfl (by kernel_rfl) rfl (fun w h => (h.sub [1, 1] rfl).less (hI4)) rfl rfl (Val.loadS rfl (Rd.own1 1 rfl rfl)) rfl ?_
 refine WA.eff1 (i := 10) (by kernel_rfl) rfl rfl ?_
 refine jG (WL.callStsK 5 rfl rfl rfl (hUndos H2 _ _ _ _ _ _ (hP2.h.mono hI4)) rfl ?_)
 rintro _ rfl
 refine jC (WK.anyStep (fun w h => (h.sub [1, 1] rfl).less (hI4)) ?_)
 refine WA.takeGT 15 rfl (by kernel_rfl) rfl (fun w h => (h.sub [1, 1] rfl).less (hI4)) rfl rfl (Val.eql rfl rfl (beq_iff_eq.2 (by omega))) rfl ?_
 refine WA.take 16 rfl (by kernel_rfl) rfl (fun w h => (h.sub [1, 1] rfl).less (hI4)) (Val.pick rfl) rfl ?_
 refine WA.take 17 rfl (by kernel_rfl) rfl (fun w h => (h.sub [1, 1] rfl).less (hI4)) (Val.moveB rfl) rfl ?_
 refine WA.takeGT 18 rfl (by kernel_rfl) rfl (fun w h => (h.sub [1, 1] rfl).less (hI4)) rfl rfl (Val.moveP rfl) rfl ?_
 refine WA.takeGT 20 rfl (by kernel_rfl) rfl (fun w h => (h.sub [1, 1] rfl).less (hI4)) rfl rfl (Val.moveP rfl) rfl ?_
 refine WA.takeGT 21 rfl (by kernel_rfl) rfl (fun w h => (h.sub [1, 1] rfl).less (hI4)) rfl rfl (Val.nilCheckP rfl) rfl ?_
 refine WA.takeGT 22 rfl (by kernel_rfl) rfl (fun w h => (h.sub [1, 1] rfl).less (hI4)) rfl rfl (Val.fldAddr rfl) rfl ?_
 refine WA.takeGT 23 rfl (by kernel_rfl) rfl (fun w h => (h.sub [1, 1] rfl).less (hI4)) rfl rfl (Val.loadS rfl (Rd.own1 1 rfl rfl)) rfl ?_
 refine WA.eff1 (i := 19) (by kernel_rfl) rfl rfl ?_
 refine jG (WL.callStsK 5 rfl rfl rfl (hRedos H2 _ _ _ _ _ _ (hP2.h.mono hI4)) rfl ?_)
 rintro _ rfl
 refine jC (WK.anyStep (fun w h => (h.sub [1, 1] rfl).less (hI4)) ?_)
 refine WA.takeGT 24 rfl (by kernel_rfl) rfl (fun w h => (h.sub [1, 1] rfl).less (hI4)) rfl rfl (Val.eql rfl rfl (beq_iff_eq.2 (by omega))) rfl ?_
 refine WA.take 25 rfl (by kernel_rfl) rfl (fun w h => (h.sub [1, 1] rfl).less (hI4)) (Val.pick rfl) rfl ?_
 refine WA.take 26 rfl (by kernel_rfl) rfl (fun w h => (h.sub [1, 1] rfl).less (hI4)) (Val.assignB rfl) rfl ?_
 refine WA.done (by kernel_rfl) ?_
 refine jA (jR ?_)
 have hJ := hI2.trans hI4
 exact jP [0, 0, 0, 0, 0] (jr1 rfl (jtB rfl)) ⟨rfl, H2, d2, us2, rs2, ws2, ns2, _, _, _, wp2, np2, rfl, hbn2, rfl, hP2.mono hI4, hK2⟩
end Go.Proofs.YtggcpoleklcmkaaGreatDoor

namespace Go.Sl
theorem Sat.foldTail {E : Ev} {w : World} {I : Mem} {F : HP} {A B : List HP} (h : Sat E w I (F :: (A ++ B))) : Sat E w I (F :: sts [] :: sts [] :: sts A :: B) := by
 have h1 : Sat E w I (A ++ (F :: B)) := h.perm List.perm_middle.symm
 have h2 : Sat E w I (sts A :: F :: B) := h1.fold A
 have h3 : Sat E w I (sts [] :: sts A :: F :: B) := Sat.fold (l' := sts A :: F :: B) [] h2
 have h4 : Sat E w I (sts [] :: sts [] :: sts A :: F :: B) := Sat.fold (l' := sts [] :: sts A :: F :: B) [] h3
 exact h4.perm (List.perm_middle (l₁ := [sts [], sts [], sts A]))
end Go.Sl
namespace Go.Proofs.YtggcpoleklcmkaaGreatDoor
open Go.Sl Go.Ls Go.Tr Go.Dc Go.Hi
theorem hPlays (bound : Int) (l : List Ac) (v : Value) (I : Mem) (hN : NeedAt I) (hb64 : I64 bound) (hv : LsAt Ac.rep I l v) : Ctr Tryz.prog 11 [vi bound, v] I [] (KeepR [] fun v _ => v = .bool true) := by
 have hv0 := hv
 obtain ⟨a1, c1, rfl⟩ := hv.sl
 refine Ctr.intro Tryz.func11 rfl rfl rfl fun E F => ?_
 refine jS (jg rfl (jN (ja rfl (WL.callP [] rfl rfl (hNew bound _ hb64) rfl ?_))))
 rintro _ I1 _ _ ⟨rfl, (⟨hout, rfl, rfl⟩ | ⟨hb1, hb2, H0, rfl, hb0, rfl, hH0⟩)⟩
 ·refine WL.nApp ?_
  rcases hout with hb | hb
  ·skip
   refine ji rfl (jM (jB (jS (ja rfl (jy rfl rfl (jb rfl (jH (jH (jk rfl (jM (jF (jS (jd rfl (jm (Val.eqlNilP rfl) ?_))))))))))))))
   refine jb rfl (jG (WL.callP [] rfl rfl (hAwake _ hN) rfl ?_))
   rintro _ I2 _ hI2 ⟨rfl, rfl⟩
   refine jW ?_
   refine jk rfl (jg rfl (jM (jR (jU ?_))))
   exact jP [] (jr1 rfl (jtB rfl)) ⟨rfl, rfl⟩
  ·have hb' : ¬ bound < 1 := by omega
   refine ji rfl (jM (jB (jS (ja rfl (jx rfl rfl (jb rfl (jG (ja rfl (jG (jO rfl rfl (jk rfl (jM (jF (jS (jd rfl (jm (Val.eqlNilP rfl) ?_))))))))))))))))
   refine jb rfl (jG (WL.callP [] rfl rfl (hAwake _ hN) rfl ?_))
   rintro _ I2 _ hI2 ⟨rfl, rfl⟩
   refine jW ?_
   refine jk rfl (jg rfl (jM (jR (jU ?_))))
   exact jP [] (jr1 rfl (jtB rfl)) ⟨rfl, rfl⟩
 change WL _ _ _ _ _ (_ ++ [_, _, _, _, _, _, _, _, _, _]) _
 refine jW ?_
 refine ji rfl (jM (jB (jS (ja rfl (jx rfl rfl (jb rfl (jG (ja rfl (jG (jL rfl rfl (jk rfl (jM (jE (jV (jA (jB (jS (jd rfl (jm (Val.eqlNilP rfl) ?_)))))))))))))))))))
 refine jb rfl (jG (jc rfl (jG ?_)))
 refine WL.callE rfl rfl (smallActs l 25 _ _ hv0) rfl (fun hs => ?_) (fun hs => ?_)
 case refine_2 =>
  refine jG (jl rfl (jk rfl (jM (jF (jS (jd rfl (jm (Val.neqNilP rfl) ?_)))))))
  refine jb rfl (jG (WL.callP [] rfl rfl (hAwake _ hN) rfl ?_))
  rintro _ I2 _ hI2 ⟨rfl, rfl⟩
  refine jW ?_
  refine jk rfl (jg rfl (jM (jR (jU ?_))))
  exact jP [] (jr1 rfl (jtB rfl)) ⟨rfl, rfl⟩
 have hl25 := hs.2
 refine jG (jl rfl (jk rfl (jM (jE (jV (jK (ja rfl (jm (Val.build (cs := [vi 0, vi 0, vi bound]) rfl) ?_))))))))
 refine WL.boxA rfl rfl (fun _ => ?_)
 refine jW ?_
 refine ji rfl (jN (jm (Val.build0) ?_))
 refine WL.boxA rfl rfl (fun _ => ?_)
 refine jW ?_
 refine ji rfl (jM (jB (jS (jc rfl (jm (jo rfl) (ja rfl (jM (WC.block ?_))))))))
 rename_i gs gp
 subst hb0
 have hN1 := hN
 refine WC.conv (fun w h => (Sat.foldTail (A := Hm.hp H0) h).sub [0, 4, 3, 0, 0, 0] rfl) ?_
 have hnow : LsAt Ent.rep I1 Dr.new.entries (.slice none 0 0) := ⟨[], ⟨_, _, rfl, ⟨Nat.zero_le _, Nat.zero_le _⟩, .inl ⟨rfl, rfl⟩⟩, trivial⟩
 refine WC.loop (fun n ρ' I' L' => ∃ (k : Nat) (H : Hm) (d : Dr) (us rs : List (List Cm)) (ws ns : List Dr) (wv nv nowv : Value) (wp np : HP), n = l.length - k ∧ k ≤ l.length ∧ I1.le I' ∧ ρ' 5 = ptr H.b ∧ ρ' 6 = ptr gs ∧ ρ' 7 = ptr gp ∧ ρ' 40 = .slice a1 l.length c1 ∧ ρ' 41 = vi l.length ∧ ρ' 42 = vi k ∧ L' = F :: pastHp gp gs H wv nv nowv wp np us.length rs.length ∧ PAbs I' H d us rs ws ns wv nv nowv wp np ∧ Past H.bnd k d us rs ws ns)
  l.length ⟨0, H0, Dr.new, [], [], [], [], _, _, _, sts [], sts [], rfl, Nat.zero_le _, Mem.le.refl _, rfl, rfl, rfl, rfl, rfl, rfl, rfl, ⟨hH0, Off.nil _ _ _, Off.nil _ _ _, hnow, Nat.zero_le _⟩, Past.start _⟩ ?_
 clear hH0 hb1 hb2 hnow
 rintro n ρ' I2 L' ⟨k, H, d, us, rs, ws, ns, wv, nv, nowv, wp, np, rfl, hk, hI2, r5, r6, r7, r40, r41, r42, rfl, hP, hK⟩
 refine ju6 r42 r41 r40 r7 r6 r5 ?_
 change WC _ _ _ _ [F, box gp 106 [wv, nv, nowv], box gs 102 [vi us.length, vi rs.length, vi H.bnd], wp, np, sts (Hm.hp H)] _
 have hN2 := hN1.mono hI2
 by_cases hkn : k < l.length
 ·obtain ⟨b, off, cap, cs, he, ⟨av, rfl, hki, ha⟩, hA⟩ := (hv0.mono hI2).get k hkn
  cases he
  have hsa := hs.1 _ (List.getElem_mem hkn)
  have ha0 := ha
  obtain ⟨a2, c2, rfl⟩ := ha.sl
  generalize l[k] = a at *
  refine jS (jy rfl rfl (jM (jB (jF (jV (jA (jB (WC.block (jS (jm (jZ rfl rfl) (jm (Val.loadI rfl (by assumption) rfl) ?_)))))))))))
  refine WL.alloc rfl (fun _ => ?_)
  refine jW ?_
  refine WL.stA 6 rfl rfl rfl rfl ?_
  refine jN (jd rfl (jd rfl (jd rfl (jm (jt 6 rfl rfl rfl) (WL.callP [1, 1, 1, 1, 1] rfl rfl (hPastDo gp gs k a _ H d us rs ws ns wv nv nowv wp np _ hN2 hP hK (by omega) hki ha0 hsa) rfl ?_)))))
  rintro _ I3 _ hI3 ⟨rfl, H1, d1, us1, rs1, ws1, ns1, wv1, nv1, nowv1, wp1, np1, hb1, hbn1, rfl, hP1, hK1⟩
  rw [← hb1]
  rw [← hbn1] at hK1
  refine jW ?_
  exact jl rfl (jM (jE (jV (WX.inNormal (jA (jD (jX rfl rfl (ja rfl (jC (WX.conv (fun w h => h.sub [0, 1, 1, 1, 1, 1] rfl) (WX.thenK (WK.round (l.length - (k + 1)) (by omega) ⟨k + 1, H1, d1, us1, rs1, ws1, ns1, wv1, nv1, nowv1, wp1, np1, rfl, by omega, hI2.trans hI3, rfl, rfl, rfl, rfl, rfl, rfl, rfl, hP1, hK1⟩))))))))))))
 have hkl : k = l.length := by omega
 subst hkl
 refine jS (jx rfl rfl (jM (jB (jE (WC.exit (WX.thenExit (WX.thenExit (WX.inHit (jK (WL.callP [] rfl rfl (hAwake _ hN2) rfl ?_))))))))))
 rintro _ I3 _ hI3 ⟨rfl, rfl⟩
 refine jW ?_
 refine jg rfl (jM (jR ?_))
 have hJ := hI2.trans hI3
 exact jP [] (jr1 rfl (jtB rfl)) ⟨rfl, rfl⟩
open Go.ChangeShapes Go.WideShapes Go.ChangeAt Go.RowKit Go.Sl Go.Ls Go.Dc
theorem Tryz.own : ownKnob Tryz.prog.godebug = none := by kernel_rfl
theorem Tryz.laidOut : laidOutB Tryz.prog = true := by kernel_rfl
theorem gNeed : Tryz.prog.globalNamed "limner/path.needs" = some 0 := by kernel_rfl
theorem gNeedType : (Tryz.prog.globals[0]?).map (·.type) = some 163 := by kernel_rfl
theorem cellsN : Tryz.prog.cellsOf 163 = 6 := by kernel_rfl
theorem cells3 : Tryz.prog.cellsOf 3 = 1 := by kernel_rfl
theorem undN : Tryz.prog.underlying 163 = some (.array 6 3) := by kernel_rfl
theorem und3 : Tryz.prog.underlying 3 = some (.int .i64) := by kernel_rfl
theorem und4 : Tryz.prog.underlying 4 = some .bool := by kernel_rfl
theorem needAt {W : World} (h : laidMetH Tryz.prog Rows.docAttrsRow.laid W) : NeedAt (heapOf W) := by
 have ht : Lib.TabIs Tryz.prog W "limner/path.needs" .i64 [0, 1, 1, 2, 3, 0] := Lib.tabIs_of_head (rest := []) gNeed gNeedType undN und3 cells3 cellsN h
 refine At.of_cells (by decide) fun j v hj => ?_
 have hl : j < 6 := by
  rcases Nat.lt_or_ge j 6 with h | h
  ·exact h
  ·rw [List.getElem?_eq_none (by simpa using h)] at hj; cases hj
 have hj' : j = 0 ∨ j = 1 ∨ j = 2 ∨ j = 3 ∨ j = 4 ∨ j = 5 := by omega
 rcases hj' with rfl | rfl | rfl | rfl | rfl | rfl <;> (cases hj; exact ht.cell gNeed _ (by decide))
noncomputable def laidWorld (os : Os) : World :=
 { World.holding Tryz.prog os ⟨#[], #[], []⟩ with heap := (World.holding Tryz.prog os ⟨#[], #[], []⟩).heap.modify 0 fun
   | .cells _ t frozen => .cells #[.int .i64 0, .int .i64 1, .int .i64 1, .int .i64 2, .int .i64 3, .int .i64 0] t frozen
   | o => o }
theorem some_of {α : Type} {o : Option α} (h : o.isSome = true) : ∃ x, o = some x := by
 cases o with
 | none => cases h
 | some x => exact ⟨x, rfl⟩
open Go.ChangeShapes Go.WideShapes Go.ChangeAt Go.RowKit Go.Joins Go.Sl Go.Ls Go.Tr Go.Dc
theorem historyPlays_params : Tryz.f11.params = #[3, 98] := by kernel_rfl
theorem historyPlays_contract (H : Type) (enc : TypeId × Value → H) (W : World) (base : Nat) (args : Array Value) (ds gs : List (DataW H)) (before : List MemPlace)
  (hval0 : ∀ (j : Nat) t v, Tryz.f11.params[j]? = some t → args[j]? = some v → Value.okWide Tryz.prog W .any base t v)
  (hW : DataW.Whole enc Tryz.prog Tryz.f11.params.toList Rows.historyPlaysSpec.vars false W args.toList ds gs before) (hL : laidMetH Tryz.prog Rows.historyPlaysRow.laid W) :
  Calls Tryz.prog 11 args W fun e W' => ∃ v, e = .returned v ∧ Rows.historyPlaysSpec.post enc Tryz.prog Tryz.f11 false true false false W args v W' := by
 have hval := hval0
 have hW' := hW
 obtain ⟨p, q, hA0, hV, rfl, hfz, hnd⟩ := hW
 have hA : DataW.TrodAll enc Tryz.prog W 0 (fun _ => true) true Tryz.f11.params.toList args.toList ds p := hA0
 rw [historyPlays_params] at hA hval
 obtain ⟨v0, v1, d0, d1, p0, p1, rfl, rfl, rfl, h0, h1⟩ := trodAll_two hA
 obtain ⟨rfl, rfl⟩ := trodVars_none hV
 have hlt0 : ∀ x ∈ p0, x.block < W.heap.size := fun x hx => hW'.lt x (by simp [hx])
 have hlt1 : ∀ x ∈ p1, x.block < W.heap.size := fun x hx => hW'.lt x (by simp [hx])
 clear hA0 hval0
 simp only [List.append_nil] at hW'
 obtain ⟨n0, rfl⟩ := okWide_int und3 (hval 0 3 v0 rfl rfl)
 obtain ⟨x0, e0, hx0⟩ := (TrodOk.of h0).int und3
 cases e0
 obtain ⟨a1, len1, cap1, rfl⟩ := okWide_slice (t := 98) slAct (hval 1 98 v1 rfl rfl)
 obtain ⟨x1, w1, e1, hx1⟩ := open_acts (TrodOk.of h1)
 cases e1
 have walk := hPlays n0 x1 _ (heapOf W) (needAt hL) hx0 hx1
 refine (Ctr.calls walk).mono fun e W' ⟨v, I', L', he, hb, hR⟩ => ?_
 obtain ⟨_, rfl⟩ := hR
 subst he
 have h9 := trodAll_mk2 (Below.trod Tryz.laidOut (by kernel_rfl) (of_decide_eq_true (by kernel_rfl)) h0 hb hlt0) (Below.trod Tryz.laidOut (by kernel_rfl) (of_decide_eq_true (by kernel_rfl)) h1 hb hlt1)
 exact ⟨_, rfl, _, _, _, [], _, [], hW', trodAll_mk1 (shut_bool und4 true), h9, rfl, hb.frame _, fun h => by cases h⟩
theorem historyPlays_laid (os : Os) : laidMet Tryz.prog Rows.historyPlaysRow.laid ((laidWorld os).forCall (fun _ _ => 0) ⟨#[], #[vi 0, .slice none 0 0], []⟩).memory :=
 laidMet_of_run' 8 (by kernel_rfl) (by kernel_rfl)
set_option maxRecDepth 100000 in
theorem historyPlays_lifted (os : Os) (started : os.Started) (H : Type) (enc : TypeId × Value → H) (F : Stop.Interp) :
  ReturnsInHanded {} Tryz.checked os 11 .any ((OpenSpec.ofChange Rows.historyPlaysSpec).preRow enc Tryz.prog Tryz.f11 Rows.historyPlaysRow.domain false Rows.historyPlaysRow.laid) (((OpenSpec.ofChange Rows.historyPlaysSpec).at F).post enc Tryz.prog Tryz.f11 false true false false) := by
 obtain ⟨x, hx⟩ := some_of (o := DataW.whole enc Tryz.prog ((laidWorld os).forCall (fun _ _ => 0) ⟨#[], #[vi 0, .slice none 0 0], []⟩).memory Tryz.f11.params.toList Rows.historyPlaysSpec.vars false (#[vi 0, .slice none 0 0] : Array Value).toList 8) (by kernel_rfl)
 refine returnsInHanded_of_row (C := Tryz.checked) (s := OpenSpec.ofChange Rows.historyPlaysSpec) Tryz.own started (by kernel_rfl) Tryz.func11
  (witness_row_at (enc := enc) (C := Tryz.checked) false (laidWorld os) #[vi 0, .slice none 0 0] rfl (by kernel_rfl) (by kernel_rfl) (by kernel_rfl)
   (OpenSpec.preRow_of_cond 8 hx (by kernel_rfl) (fun k hk => by cases hk) (by kernel_rfl) (historyPlays_laid os))) ?_
 intro W base args ds gs before hval hW _ _ _ hL _ _
 exact historyPlays_contract H enc W base args ds gs before hval hW hL
theorem historyPlays_said : Rows.HistoryPlaysSaid :=
 OpenClaim.holds_of_cond 11 Tryz.f11 rfl rfl rfl rfl rfl rfl rfl ⟨rfl, rfl, rfl, rfl, rfl⟩ rfl rfl rfl rfl rfl (by kernel_rfl) Tryz.func11 (by kernel_rfl)
  (of_decide_eq_true (by kernel_rfl)) (by unfold Func.isWrapper; first | (rw [if_pos (by decide +kernel)]; kernel_rfl) | (rw [if_neg (by decide +kernel)]; exact ⟨rfl, rfl⟩))
  (fun os started H enc _ F => by rw [OpenClaim.pre_eq_preRow]; exact historyPlays_lifted os started H enc F)
theorem historyPlays_plain (f : FuncId) (fn : Func) (hf : Tryz.pinned.checked.prog.funcNamed "limner/limnerlaw20.HistoryPlays" = some f) (hfn : Tryz.pinned.checked.prog.funcs[f]? = some fn) :
  true = Tryz.pinned.checked.prog.looks [] ∧ ∀ (j : Nat) t, fn.params[j]? = some t → Tryz.pinned.checked.prog.wantsStandIn t = false := by
 obtain rfl : f = 11 := Option.some.inj ((show Tryz.prog.funcNamed "limner/limnerlaw20.HistoryPlays" = some 11 by kernel_rfl).symm.trans hf) |>.symm
 obtain rfl : fn = Tryz.f11 := (Option.some.inj (Tryz.func11.symm.trans hfn)).symm
 refine ⟨by kernel_rfl, fun j t ht => ?_⟩
 rw [historyPlays_params] at ht
 have h9 : t = 3 ∨ t = 98 := by simpa using Array.mem_of_getElem? ht
 rcases h9 with rfl | rfl
 ·exact (show Tryz.prog.wantsStandIn 3 = false by kernel_rfl)
 ·exact (show Tryz.prog.wantsStandIn 98 = false by kernel_rfl)
theorem historyPlays_card : Rows.HistoryPlaysCardSaid :=
 Claim7.holds_tied_plain_at .later [] _ _ _ _ historyPlays_said (fun _ h => by cases h) (by kernel_rfl) (fun _ h => by cases h) historyPlays_row_tie rfl ⟨rfl, rfl⟩ (by kernel_rfl) rfl historyPlays_plain (by kernel_rfl)
#print axioms historyPlays_card
end Go.Proofs.YtggcpoleklcmkaaGreatDoor
