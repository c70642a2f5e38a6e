/-
 Drawings: arguments that read as data are commands, entries, bytes.
-/
import Derived.Test.YtggcpoleklcmkaaGreatDoorX8
import Derived.Test.YtggcpoleklcmkaaGreatDoorX4
import Derived.Test.YtggcpoleklcmkaaGreatDoorX2
import Derived.Lib.LaidTab
import Derived.Test.YtggcpoleklcmkaaGreatDoorX13
import Derived.Test.YtggcpoleklcmkaaGreatDoorX3
import Derived.Test.YtggcpoleklcmkaaGreatDoorX14
import Derived.Test.YtggcpoleklcmkaaGreatDoorX9
import Derived.Test.YtggcpoleklcmkaaGreatDoorX7
import Derived.Test.YtggcpoleklcmkaaGreatDoorCards
import Derived.Test.YtggcpoleklcmkaaGreatDoorTie
import Derived.ProofKit
import Derived.Carry
import Derived.Lib.SmallJoins
import Derived.Deep.DeepHandedRow
set_option linter.unusedVariables false
set_option linter.unusedSimpArgs false
set_option maxRecDepth 100000
set_option maxHeartbeats 8000000
namespace Go.Proofs.YtggcpoleklcmkaaGreatDoor
open Go.Sl Go.Ls Go.Dc
instance : LvK Tryz.prog 203 (3 :: 5 :: 5 :: 5 :: 5 :: []) := ⟨by kernel_rfl⟩
instance : LvK Tryz.prog 57 (3 :: 3 :: 3 :: 3 :: 3 :: 3 :: 3 :: []) := ⟨by kernel_rfl⟩
instance : LvK Tryz.prog 69 (3 :: 4 :: 3 :: 3 :: 3 :: 3 :: 3 :: 3 :: 3 :: 3 :: 5 :: 5 :: 5 :: 5 :: 3 :: 3 :: 3 :: 3 :: 28 :: 3 :: 5 :: 5 :: 5 :: 5 :: 3 :: 3 :: 3 :: 3 :: 28 :: 3 :: 3 :: 3 :: 31 :: 3 :: 3 :: 3 :: 36 :: []) := ⟨by kernel_rfl⟩
instance : LvK Tryz.prog 59 (3 :: 3 :: 3 :: 3 :: 3 :: 3 :: 3 :: 54 :: 3 :: 3 :: 3 :: 3 :: 3 :: 3 :: 3 :: 5 :: 5 :: 5 :: 5 :: 3 :: 3 :: 3 :: 3 :: 28 :: 3 :: 5 :: 5 :: 5 :: 5 :: 3 :: 3 :: 3 :: 3 :: 28 :: 3 :: 3 :: 3 :: 31 :: 3 :: 3 :: 3 :: 36 :: 3 :: 3 :: 3 :: 3 :: 3 :: 3 :: 3 :: 3 :: 3 :: []) := ⟨by kernel_rfl⟩
theorem all2_map {α β γ : Type} {R : β → γ → Prop} {X : α → β} {Y : α → γ} : ∀ (l : List α), (∀ i ∈ l, R (X i) (Y i)) → All2 R (l.map X) (l.map Y)
 | [], _ => trivial
 | a :: l, h => ⟨h a (List.mem_cons_self ..), all2_map l fun i hi => h i (List.mem_cons_of_mem _ hi)⟩
section
variable {H : Type} {enc : TypeId × Value → H} {W : World}
theorem open_ls {α : Type} {R : Rep α} {t e sz : Nat} [hk : SlK Tryz.prog t e sz] (hsz : 0 < sz) (hel : ∀ cs, TrodOk enc Tryz.prog W e cs → ∃ x, R (heapOf W) x cs) {cs : List Value} (h : TrodOk enc Tryz.prog W t cs) : ∃ l v, cs = [v] ∧ LsAt R (heapOf W) l v := by
 obtain ⟨a, len, cap, rfl, hc, h0 | ⟨b, off, rfl, hC⟩⟩ := h.slice hk.is hsz
 ·subst h0
  exact ⟨[], _, rfl, [], ⟨a, cap, rfl, hc, .inl ⟨rfl, rfl⟩⟩, trivial⟩
 ·rcases Nat.eq_zero_or_pos len with h0 | h0
  ·subst h0
   exact ⟨[], _, rfl, [], ⟨_, cap, rfl, hc, .inl ⟨rfl, rfl⟩⟩, trivial⟩
  obtain ⟨C, hC⟩ := Go.Deep.choose_lt (p := fun i C => C.length = sz ∧ At (heapOf W) b (off + i * sz) C ∧ TrodOk enc Tryz.prog W e C) hC
  haveI : Inhabited α := ⟨(hel _ (hC 0 h0).2.2).choose⟩
  obtain ⟨X, hX⟩ := Go.Deep.choose_lt (p := fun i x => R (heapOf W) x (C i)) fun i hi => hel _ (hC i hi).2.2
  refine ⟨(List.range len).map X, _, rfl, (List.range len).map C, ⟨_, cap, by simp, by simpa using hc, .inr ⟨b, off, rfl, At.join len off h0 fun i hi => ⟨(hC i hi).1, (hC i hi).2.1⟩⟩⟩, all2_map _ fun i hi => hX i (List.mem_range.1 hi)⟩
theorem open_int {cs : List Value} (h : TrodOk enc Tryz.prog W 3 cs) : ∃ n, Ls.Int.rep (heapOf W) n cs := by
 obtain ⟨n, rfl, h0, h1⟩ := h.i64
 exact ⟨n, rfl, h0, h1⟩
theorem open_stp {cs : List Value} (h : TrodOk enc Tryz.prog W 203 cs) : ∃ x, Stp.rep (heapOf W) x cs := by
 replace h := h.leaves
 obtain ⟨c0, r0, hr0, t0, h⟩ := h.cons
 obtain ⟨n0, e0, b0⟩ := t0.i64
 cases e0
 obtain ⟨c1, r1, hr1, t1, h⟩ := h.cons
 obtain ⟨n1, e1⟩ := t1.u8
 cases e1
 obtain ⟨c2, r2, hr2, t2, h⟩ := h.cons
 obtain ⟨n2, e2⟩ := t2.u8
 cases e2
 obtain ⟨c3, r3, hr3, t3, h⟩ := h.cons
 obtain ⟨n3, e3⟩ := t3.u8
 cases e3
 obtain ⟨c4, r4, hr4, t4, h⟩ := h.cons
 obtain ⟨n4, e4⟩ := t4.u8
 cases e4
 have hn := h.nil
 subst hn
 subst hr4
 subst hr3
 subst hr2
 subst hr1
 subst hr0
 exact ⟨⟨n0, ⟨n1, n2, n3, n4⟩⟩, rfl, b0⟩
theorem open_sg {cs : List Value} (h : TrodOk enc Tryz.prog W 57 cs) : ∃ x, Sg.rep (heapOf W) x cs := by
 replace h := h.leaves
 obtain ⟨c0, r0, hr0, t0, h⟩ := h.cons
 obtain ⟨n0, e0, b0⟩ := t0.i64
 cases e0
 obtain ⟨c1, r1, hr1, t1, h⟩ := h.cons
 obtain ⟨n1, e1, b1⟩ := t1.i64
 cases e1
 obtain ⟨c2, r2, hr2, t2, h⟩ := h.cons
 obtain ⟨n2, e2, b2⟩ := t2.i64
 cases e2
 obtain ⟨c3, r3, hr3, t3, h⟩ := h.cons
 obtain ⟨n3, e3, b3⟩ := t3.i64
 cases e3
 obtain ⟨c4, r4, hr4, t4, h⟩ := h.cons
 obtain ⟨n4, e4, b4⟩ := t4.i64
 cases e4
 obtain ⟨c5, r5, hr5, t5, h⟩ := h.cons
 obtain ⟨n5, e5, b5⟩ := t5.i64
 cases e5
 obtain ⟨c6, r6, hr6, t6, h⟩ := h.cons
 obtain ⟨n6, e6, b6⟩ := t6.i64
 cases e6
 have hn := h.nil
 subst hn
 subst hr6
 subst hr5
 subst hr4
 subst hr3
 subst hr2
 subst hr1
 subst hr0
 exact ⟨⟨n0, ⟨n1, n2⟩, ⟨n3, n4⟩, ⟨n5, n6⟩⟩, rfl, ⟨b0, ⟨b1, b2⟩, ⟨b3, b4⟩, ⟨b5, b6⟩⟩⟩
theorem open_stops {cs : List Value} (h : TrodOk enc Tryz.prog W 28 cs) : ∃ l v, cs = [v] ∧ LsAt Stp.rep (heapOf W) l v := open_ls (t := 28) (by decide) (fun cs h => open_stp h) h
theorem open_ints {cs : List Value} (h : TrodOk enc Tryz.prog W 31 cs) : ∃ l v, cs = [v] ∧ LsAt Ls.Int.rep (heapOf W) l v := open_ls (t := 31) (by decide) (fun cs h => open_int h) h
theorem open_segs {cs : List Value} (h : TrodOk enc Tryz.prog W 36 cs) : ∃ l v, cs = [v] ∧ LsAt Sg.rep (heapOf W) l v := open_ls (t := 36) (by decide) (fun cs h => open_sg h) h
theorem open_ent {cs : List Value} (h : TrodOk enc Tryz.prog W 69 cs) : ∃ x, Ent.rep (heapOf W) x cs := by
 replace h := h.leaves
 obtain ⟨c0, r0, hr0, t0, h⟩ := h.cons
 obtain ⟨n0, e0, b0⟩ := t0.i64
 cases e0
 obtain ⟨c1, r1, hr1, t1, h⟩ := h.cons
 obtain ⟨n1, e1⟩ := t1.b
 cases e1
 obtain ⟨c2, r2, hr2, t2, h⟩ := h.cons
 obtain ⟨n2, e2, b2⟩ := t2.i64
 cases e2
 obtain ⟨c3, r3, hr3, t3, h⟩ := h.cons
 obtain ⟨n3, e3, b3⟩ := t3.i64
 cases e3
 obtain ⟨c4, r4, hr4, t4, h⟩ := h.cons
 obtain ⟨n4, e4, b4⟩ := t4.i64
 cases e4
 obtain ⟨c5, r5, hr5, t5, h⟩ := h.cons
 obtain ⟨n5, e5, b5⟩ := t5.i64
 cases e5
 obtain ⟨c6, r6, hr6, t6, h⟩ := h.cons
 obtain ⟨n6, e6, b6⟩ := t6.i64
 cases e6
 obtain ⟨c7, r7, hr7, t7, h⟩ := h.cons
 obtain ⟨n7, e7, b7⟩ := t7.i64
 cases e7
 obtain ⟨c8, r8, hr8, t8, h⟩ := h.cons
 obtain ⟨n8, e8, b8⟩ := t8.i64
 cases e8
 obtain ⟨c9, r9, hr9, t9, h⟩ := h.cons
 obtain ⟨n9, e9, b9⟩ := t9.i64
 cases e9
 obtain ⟨c10, r10, hr10, t10, h⟩ := h.cons
 obtain ⟨n10, e10⟩ := t10.u8
 cases e10
 obtain ⟨c11, r11, hr11, t11, h⟩ := h.cons
 obtain ⟨n11, e11⟩ := t11.u8
 cases e11
 obtain ⟨c12, r12, hr12, t12, h⟩ := h.cons
 obtain ⟨n12, e12⟩ := t12.u8
 cases e12
 obtain ⟨c13, r13, hr13, t13, h⟩ := h.cons
 obtain ⟨n13, e13⟩ := t13.u8
 cases e13
 obtain ⟨c14, r14, hr14, t14, h⟩ := h.cons
 obtain ⟨n14, e14, b14⟩ := t14.i64
 cases e14
 obtain ⟨c15, r15, hr15, t15, h⟩ := h.cons
 obtain ⟨n15, e15, b15⟩ := t15.i64
 cases e15
 obtain ⟨c16, r16, hr16, t16, h⟩ := h.cons
 obtain ⟨n16, e16, b16⟩ := t16.i64
 cases e16
 obtain ⟨c17, r17, hr17, t17, h⟩ := h.cons
 obtain ⟨n17, e17, b17⟩ := t17.i64
 cases e17
 obtain ⟨c18, r18, hr18, t18, h⟩ := h.cons
 obtain ⟨n18, v18, e18, b18⟩ := open_stops t18
 cases e18
 obtain ⟨c19, r19, hr19, t19, h⟩ := h.cons
 obtain ⟨n19, e19, b19⟩ := t19.i64
 cases e19
 obtain ⟨c20, r20, hr20, t20, h⟩ := h.cons
 obtain ⟨n20, e20⟩ := t20.u8
 cases e20
 obtain ⟨c21, r21, hr21, t21, h⟩ := h.cons
 obtain ⟨n21, e21⟩ := t21.u8
 cases e21
 obtain ⟨c22, r22, hr22, t22, h⟩ := h.cons
 obtain ⟨n22, e22⟩ := t22.u8
 cases e22
 obtain ⟨c23, r23, hr23, t23, h⟩ := h.cons
 obtain ⟨n23, e23⟩ := t23.u8
 cases e23
 obtain ⟨c24, r24, hr24, t24, h⟩ := h.cons
 obtain ⟨n24, e24, b24⟩ := t24.i64
 cases e24
 obtain ⟨c25, r25, hr25, t25, h⟩ := h.cons
 obtain ⟨n25, e25, b25⟩ := t25.i64
 cases e25
 obtain ⟨c26, r26, hr26, t26, h⟩ := h.cons
 obtain ⟨n26, e26, b26⟩ := t26.i64
 cases e26
 obtain ⟨c27, r27, hr27, t27, h⟩ := h.cons
 obtain ⟨n27, e27, b27⟩ := t27.i64
 cases e27
 obtain ⟨c28, r28, hr28, t28, h⟩ := h.cons
 obtain ⟨n28, v28, e28, b28⟩ := open_stops t28
 cases e28
 obtain ⟨c29, r29, hr29, t29, h⟩ := h.cons
 obtain ⟨n29, e29, b29⟩ := t29.i64
 cases e29
 obtain ⟨c30, r30, hr30, t30, h⟩ := h.cons
 obtain ⟨n30, e30, b30⟩ := t30.i64
 cases e30
 obtain ⟨c31, r31, hr31, t31, h⟩ := h.cons
 obtain ⟨n31, e31, b31⟩ := t31.i64
 cases e31
 obtain ⟨c32, r32, hr32, t32, h⟩ := h.cons
 obtain ⟨n32, v32, e32, b32⟩ := open_ints t32
 cases e32
 obtain ⟨c33, r33, hr33, t33, h⟩ := h.cons
 obtain ⟨n33, e33, b33⟩ := t33.i64
 cases e33
 obtain ⟨c34, r34, hr34, t34, h⟩ := h.cons
 obtain ⟨n34, e34, b34⟩ := t34.i64
 cases e34
 obtain ⟨c35, r35, hr35, t35, h⟩ := h.cons
 obtain ⟨n35, e35, b35⟩ := t35.i64
 cases e35
 obtain ⟨c36, r36, hr36, t36, h⟩ := h.cons
 obtain ⟨n36, v36, e36, b36⟩ := open_segs t36
 cases e36
 have hn := h.nil
 subst hn
 subst hr36
 subst hr35
 subst hr34
 subst hr33
 subst hr32
 subst hr31
 subst hr30
 subst hr29
 subst hr28
 subst hr27
 subst hr26
 subst hr25
 subst hr24
 subst hr23
 subst hr22
 subst hr21
 subst hr20
 subst hr19
 subst hr18
 subst hr17
 subst hr16
 subst hr15
 subst hr14
 subst hr13
 subst hr12
 subst hr11
 subst hr10
 subst hr9
 subst hr8
 subst hr7
 subst hr6
 subst hr5
 subst hr4
 subst hr3
 subst hr2
 subst hr1
 subst hr0
 exact ⟨⟨n0, n1, n2, ⟨⟨n3, n4, n5, n6, n7, n8⟩, ⟨⟨n9, ⟨n10, n11, n12, n13⟩, ⟨n14, n15⟩, ⟨n16, n17⟩, n18⟩, ⟨n19, ⟨n20, n21, n22, n23⟩, ⟨n24, n25⟩, ⟨n26, n27⟩, n28⟩, n29, n30, n31, n32, n33, n34, n35⟩, n36⟩⟩, _, _, _, _, rfl, ⟨b0, b2, ⟨⟨b3, b4, b5, b6, b7, b8⟩, ⟨⟨b9, ⟨b14, b15⟩, ⟨b16, b17⟩, b18⟩, ⟨b19, ⟨b24, b25⟩, ⟨b26, b27⟩, b28⟩, b29, b30, b31, b32, b33, b34, b35⟩, b36⟩⟩⟩
theorem open_ents {cs : List Value} (h : TrodOk enc Tryz.prog W 54 cs) : ∃ l v, cs = [v] ∧ LsAt Ent.rep (heapOf W) l v := open_ls (t := 54) (by decide) (fun cs h => open_ent h) h
theorem open_cm {cs : List Value} (h : TrodOk enc Tryz.prog W 59 cs) : ∃ x, Cm.rep (heapOf W) x cs := by
 replace h := h.leaves
 obtain ⟨c0, r0, hr0, t0, h⟩ := h.cons
 obtain ⟨n0, e0, b0⟩ := t0.i64
 cases e0
 obtain ⟨c1, r1, hr1, t1, h⟩ := h.cons
 obtain ⟨n1, e1, b1⟩ := t1.i64
 cases e1
 obtain ⟨c2, r2, hr2, t2, h⟩ := h.cons
 obtain ⟨n2, e2, b2⟩ := t2.i64
 cases e2
 obtain ⟨c3, r3, hr3, t3, h⟩ := h.cons
 obtain ⟨n3, e3, b3⟩ := t3.i64
 cases e3
 obtain ⟨c4, r4, hr4, t4, h⟩ := h.cons
 obtain ⟨n4, e4, b4⟩ := t4.i64
 cases e4
 obtain ⟨c5, r5, hr5, t5, h⟩ := h.cons
 obtain ⟨n5, e5, b5⟩ := t5.i64
 cases e5
 obtain ⟨c6, r6, hr6, t6, h⟩ := h.cons
 obtain ⟨n6, e6, b6⟩ := t6.i64
 cases e6
 obtain ⟨c7, r7, hr7, t7, h⟩ := h.cons
 obtain ⟨n7, v7, e7, b7⟩ := open_ents t7
 cases e7
 obtain ⟨c8, r8, hr8, t8, h⟩ := h.cons
 obtain ⟨n8, e8, b8⟩ := t8.i64
 cases e8
 obtain ⟨c9, r9, hr9, t9, h⟩ := h.cons
 obtain ⟨n9, e9, b9⟩ := t9.i64
 cases e9
 obtain ⟨c10, r10, hr10, t10, h⟩ := h.cons
 obtain ⟨n10, e10, b10⟩ := t10.i64
 cases e10
 obtain ⟨c11, r11, hr11, t11, h⟩ := h.cons
 obtain ⟨n11, e11, b11⟩ := t11.i64
 cases e11
 obtain ⟨c12, r12, hr12, t12, h⟩ := h.cons
 obtain ⟨n12, e12, b12⟩ := t12.i64
 cases e12
 obtain ⟨c13, r13, hr13, t13, h⟩ := h.cons
 obtain ⟨n13, e13, b13⟩ := t13.i64
 cases e13
 obtain ⟨c14, r14, hr14, t14, h⟩ := h.cons
 obtain ⟨n14, e14, b14⟩ := t14.i64
 cases e14
 obtain ⟨c15, r15, hr15, t15, h⟩ := h.cons
 obtain ⟨n15, e15⟩ := t15.u8
 cases e15
 obtain ⟨c16, r16, hr16, t16, h⟩ := h.cons
 obtain ⟨n16, e16⟩ := t16.u8
 cases e16
 obtain ⟨c17, r17, hr17, t17, h⟩ := h.cons
 obtain ⟨n17, e17⟩ := t17.u8
 cases e17
 obtain ⟨c18, r18, hr18, t18, h⟩ := h.cons
 obtain ⟨n18, e18⟩ := t18.u8
 cases e18
 obtain ⟨c19, r19, hr19, t19, h⟩ := h.cons
 obtain ⟨n19, e19, b19⟩ := t19.i64
 cases e19
 obtain ⟨c20, r20, hr20, t20, h⟩ := h.cons
 obtain ⟨n20, e20, b20⟩ := t20.i64
 cases e20
 obtain ⟨c21, r21, hr21, t21, h⟩ := h.cons
 obtain ⟨n21, e21, b21⟩ := t21.i64
 cases e21
 obtain ⟨c22, r22, hr22, t22, h⟩ := h.cons
 obtain ⟨n22, e22, b22⟩ := t22.i64
 cases e22
 obtain ⟨c23, r23, hr23, t23, h⟩ := h.cons
 obtain ⟨n23, v23, e23, b23⟩ := open_stops t23
 cases e23
 obtain ⟨c24, r24, hr24, t24, h⟩ := h.cons
 obtain ⟨n24, e24, b24⟩ := t24.i64
 cases e24
 obtain ⟨c25, r25, hr25, t25, h⟩ := h.cons
 obtain ⟨n25, e25⟩ := t25.u8
 cases e25
 obtain ⟨c26, r26, hr26, t26, h⟩ := h.cons
 obtain ⟨n26, e26⟩ := t26.u8
 cases e26
 obtain ⟨c27, r27, hr27, t27, h⟩ := h.cons
 obtain ⟨n27, e27⟩ := t27.u8
 cases e27
 obtain ⟨c28, r28, hr28, t28, h⟩ := h.cons
 obtain ⟨n28, e28⟩ := t28.u8
 cases e28
 obtain ⟨c29, r29, hr29, t29, h⟩ := h.cons
 obtain ⟨n29, e29, b29⟩ := t29.i64
 cases e29
 obtain ⟨c30, r30, hr30, t30, h⟩ := h.cons
 obtain ⟨n30, e30, b30⟩ := t30.i64
 cases e30
 obtain ⟨c31, r31, hr31, t31, h⟩ := h.cons
 obtain ⟨n31, e31, b31⟩ := t31.i64
 cases e31
 obtain ⟨c32, r32, hr32, t32, h⟩ := h.cons
 obtain ⟨n32, e32, b32⟩ := t32.i64
 cases e32
 obtain ⟨c33, r33, hr33, t33, h⟩ := h.cons
 obtain ⟨n33, v33, e33, b33⟩ := open_stops t33
 cases e33
 obtain ⟨c34, r34, hr34, t34, h⟩ := h.cons
 obtain ⟨n34, e34, b34⟩ := t34.i64
 cases e34
 obtain ⟨c35, r35, hr35, t35, h⟩ := h.cons
 obtain ⟨n35, e35, b35⟩ := t35.i64
 cases e35
 obtain ⟨c36, r36, hr36, t36, h⟩ := h.cons
 obtain ⟨n36, e36, b36⟩ := t36.i64
 cases e36
 obtain ⟨c37, r37, hr37, t37, h⟩ := h.cons
 obtain ⟨n37, v37, e37, b37⟩ := open_ints t37
 cases e37
 obtain ⟨c38, r38, hr38, t38, h⟩ := h.cons
 obtain ⟨n38, e38, b38⟩ := t38.i64
 cases e38
 obtain ⟨c39, r39, hr39, t39, h⟩ := h.cons
 obtain ⟨n39, e39, b39⟩ := t39.i64
 cases e39
 obtain ⟨c40, r40, hr40, t40, h⟩ := h.cons
 obtain ⟨n40, e40, b40⟩ := t40.i64
 cases e40
 obtain ⟨c41, r41, hr41, t41, h⟩ := h.cons
 obtain ⟨n41, v41, e41, b41⟩ := open_segs t41
 cases e41
 obtain ⟨c42, r42, hr42, t42, h⟩ := h.cons
 obtain ⟨n42, e42, b42⟩ := t42.i64
 cases e42
 obtain ⟨c43, r43, hr43, t43, h⟩ := h.cons
 obtain ⟨n43, e43, b43⟩ := t43.i64
 cases e43
 obtain ⟨c44, r44, hr44, t44, h⟩ := h.cons
 obtain ⟨n44, e44, b44⟩ := t44.i64
 cases e44
 obtain ⟨c45, r45, hr45, t45, h⟩ := h.cons
 obtain ⟨n45, e45, b45⟩ := t45.i64
 cases e45
 obtain ⟨c46, r46, hr46, t46, h⟩ := h.cons
 obtain ⟨n46, e46, b46⟩ := t46.i64
 cases e46
 obtain ⟨c47, r47, hr47, t47, h⟩ := h.cons
 obtain ⟨n47, e47, b47⟩ := t47.i64
 cases e47
 obtain ⟨c48, r48, hr48, t48, h⟩ := h.cons
 obtain ⟨n48, e48, b48⟩ := t48.i64
 cases e48
 obtain ⟨c49, r49, hr49, t49, h⟩ := h.cons
 obtain ⟨n49, e49, b49⟩ := t49.i64
 cases e49
 obtain ⟨c50, r50, hr50, t50, h⟩ := h.cons
 obtain ⟨n50, e50, b50⟩ := t50.i64
 cases e50
 have hn := h.nil
 subst hn
 subst hr50
 subst hr49
 subst hr48
 subst hr47
 subst hr46
 subst hr45
 subst hr44
 subst hr43
 subst hr42
 subst hr41
 subst hr40
 subst hr39
 subst hr38
 subst hr37
 subst hr36
 subst hr35
 subst hr34
 subst hr33
 subst hr32
 subst hr31
 subst hr30
 subst hr29
 subst hr28
 subst hr27
 subst hr26
 subst hr25
 subst hr24
 subst hr23
 subst hr22
 subst hr21
 subst hr20
 subst hr19
 subst hr18
 subst hr17
 subst hr16
 subst hr15
 subst hr14
 subst hr13
 subst hr12
 subst hr11
 subst hr10
 subst hr9
 subst hr8
 subst hr7
 subst hr6
 subst hr5
 subst hr4
 subst hr3
 subst hr2
 subst hr1
 subst hr0
 exact ⟨⟨n0, n1, n2, n3, n4, n5, n6, n7, ⟨⟨n8, n9, n10, n11, n12, n13⟩, ⟨⟨n14, ⟨n15, n16, n17, n18⟩, ⟨n19, n20⟩, ⟨n21, n22⟩, n23⟩, ⟨n24, ⟨n25, n26, n27, n28⟩, ⟨n29, n30⟩, ⟨n31, n32⟩, n33⟩, n34, n35, n36, n37, n38, n39, n40⟩, n41⟩, ⟨n42, ⟨n43, n44⟩, ⟨n45, n46⟩, ⟨n47, n48⟩⟩, ⟨n49, n50⟩⟩, _, _, _, _, _, rfl, ⟨b0, b1, b2, b3, b4, b5, b6, b7, ⟨⟨b8, b9, b10, b11, b12, b13⟩, ⟨⟨b14, ⟨b19, b20⟩, ⟨b21, b22⟩, b23⟩, ⟨b24, ⟨b29, b30⟩, ⟨b31, b32⟩, b33⟩, b34, b35, b36, b37, b38, b39, b40⟩, b41⟩, ⟨b42, ⟨b43, b44⟩, ⟨b45, b46⟩, ⟨b47, b48⟩⟩, ⟨b49, b50⟩⟩⟩
theorem open_cms {cs : List Value} (h : TrodOk enc Tryz.prog W 47 cs) : ∃ l v, cs = [v] ∧ LsAt Cm.rep (heapOf W) l v := open_ls (t := 47) (by decide) (fun cs h => open_cm h) h
end
theorem At.of_cells {W : World} {b off : Nat} {cs : List Value} (h0 : 0 < cs.length) (h : ∀ j v, cs[j]? = some v → W.cell? ⟨b, off + j, none⟩ = some v) : At (heapOf W) b off cs := by
 have h1 := h 0 cs[0] (List.getElem?_eq_getElem h0)
 unfold World.cell? at h1
 cases hb : W.heap[b]? with
 | none => simp [hb] at h1
 | some o => cases o with
  | cells c ty fr =>
   refine ⟨c, ty, fr, hb, fun j v hj => ?_⟩
   have := h j v hj
   simpa [World.cell?, hb] using this
  | _ => simp [hb] at h1
end Go.Proofs.YtggcpoleklcmkaaGreatDoor

namespace Go.Hi
open Go.Sl Go.Ls Go.Dc
structure Ac where
 kind : Int
 cms : List Cm
def Ac.rep : Rep Ac := fun I a cs => ∃ v, cs = [vi a.kind, v] ∧ I64 a.kind ∧ LsAt Cm.rep I a.cms v
instance : RepMono Ac.rep := ⟨fun h hI => by
 obtain ⟨v, h, hk, hl⟩ := h
 exact ⟨v, h, hk, hl.mono hI⟩⟩
instance : RepLen Ac.rep 2 := ⟨fun ⟨v, h, _⟩ => by rw [h]; rfl⟩
end Go.Hi
namespace Go.Proofs.YtggcpoleklcmkaaGreatDoor
open Go.Sl Go.Ls Go.Dc Go.Hi
instance : LvK Tryz.prog 108 (3 :: 47 :: []) := ⟨by kernel_rfl⟩
section
variable {H : Type} {enc : TypeId × Value → H} {W : World}
theorem open_act {cs : List Value} (h : TrodOk enc Tryz.prog W 108 cs) : ∃ x, Ac.rep (heapOf W) x cs := by
 replace h := h.leaves
 obtain ⟨c0, r0, hr0, t0, h⟩ := h.cons
 obtain ⟨n0, e0, b0⟩ := t0.i64
 cases e0
 obtain ⟨c1, r1, hr1, t1, h⟩ := h.cons
 obtain ⟨n1, v1, e1, b1⟩ := open_cms t1
 cases e1
 have hn := h.nil
 subst hn
 subst hr1
 subst hr0
 exact ⟨⟨n0, n1⟩, _, rfl, b0, b1⟩
theorem open_acts {cs : List Value} (h : TrodOk enc Tryz.prog W 98 cs) : ∃ l v, cs = [v] ∧ LsAt Ac.rep (heapOf W) l v := open_ls (t := 98) (by decide) (fun cs h => open_act h) h
end
theorem slAct : Tryz.prog.underlying 98 = some (.slice 108) := by kernel_rfl
end Go.Proofs.YtggcpoleklcmkaaGreatDoor

namespace Go.Sl
open Go.Ls
theorem WC.layNil {Γ : Cx} {ρ : Nat → Value} {I : Mem} {L : List HP} {Q : Post} {c : Code} (next : WC Γ c ρ I (L ++ [sts []]) Q) : WC Γ c ρ I L Q := fun a w ha hw => next a w ha ((Sat.fold (l' := L) [] hw).perm (List.perm_append_comm (l₁ := [_])))
section
variable {Γ : Cx} {ops : Array Oper} {rest : List Oper} {ρ : Nat → Value} {I : Mem} {L : List HP} {Q : Post} {ty : TypeId} {ps : String} {af : Array Edge}
theorem WL.callFill {d : Nat} {f : FuncId} {x : Operand} {args : List Operand} {ats : Array TypeId} {fs cp vs : List Value} {Lc Lr : List HP} {S : Value → List HP → Prop} (ks : List Nat) (k : Nat) [hf : FnK Γ.P f]
  (hx : ev ρ x = .func (.func f) fs.toArray cp.toArray) (hv : fs ++ args.map (ev ρ) ++ cp = vs) (hp : picks ks L = some (Lc, Lr)) (hk : L[k]? = some (sts [])) (hc : Ctr Γ.P f vs I Lc (fun v I' L' => I' = I ∧ ∃ M, S v M ∧ L' = Lc ++ M)) (hd : Nat.blt d Γ.n = true)
  (next : ∀ v M, S v M → WL Γ ops rest (upd ρ d v) I (L.set k (sts M)) Q) :
  WL Γ ops ({ dst := some d, op := .call { callee := .value x, args := args.toArray, argTypes := ats }, type := ty, pos := ps, after := af, guard := none } :: rest) ρ I L Q :=
 WL.call ks hx hv hp hc hd fun v I' L' hI ⟨h1, M, hS, h2⟩ a w ha hw => by
  subst h1; subst h2
  have h3 : Sat Γ.E w I' (M ++ L) := hw.perm (by
   rw [← List.append_assoc]
   exact List.perm_append_comm.trans ((List.perm_append_comm.trans (picks_perm _ _ _ _ hp).symm).append_left M))
  have h5 : Sat Γ.E w I' (sts M :: sts [] :: L.eraseIdx k) := (h3.fold M).perm ((pull k L _ hk).cons _)
  have h6 : Sat Γ.E w I' (sts M :: L.eraseIdx k) := (h5.perm (List.Perm.swap _ _ _)).tail
  exact next v M hS a w ha (h6.perm (push_back k L _ _ hk))
end
theorem Sat.unfold3 {E : Ev} {w : World} {I : Mem} {F b up rp x1 x2 x3 x4 x5 x6 x7 g y1 y2 y3 y4 y5 y6 y7 up2 rp2 : HP} (h : Sat E w I [F, b, up, rp, x1, x2, x3, x4, x5, x6, x7, sts [y1, y2, y3, y4, y5, y6, y7], sts [up2], sts [rp2], g]) :
  Sat E w I [F, b, up, rp, x1, x2, x3, x4, x5, x6, x7, g, up2, rp2, y1, y2, y3, y4, y5, y6, y7] := by
 have h0 : Sat E w I [sts [y1, y2, y3, y4, y5, y6, y7], sts [rp2], sts [up2], F, b, up, rp, x1, x2, x3, x4, x5, x6, x7, g] := h.sub [11, 12, 11, 0, 0, 0, 0, 0, 0, 0, 0, 0, 0, 0, 0] rfl
 have h1 : Sat E w I [y1, y2, y3, y4, y5, y6, y7, sts [rp2], sts [up2], F, b, up, rp, x1, x2, x3, x4, x5, x6, x7, g] := Sat.unfold (l := [y1, y2, y3, y4, y5, y6, y7]) h0
 have h1' : Sat E w I [sts [rp2], y1, y2, y3, y4, y5, y6, y7, sts [up2], F, b, up, rp, x1, x2, x3, x4, x5, x6, x7, g] := h1.perm (pull 7 _ _ rfl)
 have h2 : Sat E w I [rp2, y1, y2, y3, y4, y5, y6, y7, sts [up2], F, b, up, rp, x1, x2, x3, x4, x5, x6, x7, g] := Sat.unfold (l := [rp2]) h1'
 have h2' : Sat E w I [sts [up2], rp2, y1, y2, y3, y4, y5, y6, y7, F, b, up, rp, x1, x2, x3, x4, x5, x6, x7, g] := h2.perm (pull 8 _ _ rfl)
 have h3 : Sat E w I [up2, rp2, y1, y2, y3, y4, y5, y6, y7, F, b, up, rp, x1, x2, x3, x4, x5, x6, x7, g] := Sat.unfold (l := [up2]) h2'
 exact h3.perm (List.perm_append_comm (l₁ := [up2, rp2, y1, y2, y3, y4, y5, y6, y7]) (l₂ := [F, b, up, rp, x1, x2, x3, x4, x5, x6, x7, g]))
end Go.Sl
namespace Go.Proofs.YtggcpoleklcmkaaGreatDoor
open Go.Sl Go.Ls Go.Tr Go.Dc Go.Hi
attribute [local irreducible] WC WL WX WK WA WAK Val Ctr RunRes ResIs Rd At sl box pt Exit.then Exit.inBlock bodyPost Code.wp wpList
theorem sCloneSt (us : List (List Cm)) (s : Value) (p : HP) (I : Mem) (hp : OwnL Step.rep 154 1 I us s p) (hl : us.length ≤ 100000) :
  Ctr Tryz.prog 91 [s] I [p] (fun r I' L' => I' = I ∧ ∃ M, (∃ q a c, r = .slice a us.length c ∧ M = [q] ∧ OwnL Step.rep 154 1 I us r q) ∧ L' = [p] ++ M) := by
 obtain ⟨css, rfl, hall⟩ := hp
 obtain ⟨e1, e2, e3⟩ := one_flat hall
 refine Ctr.intro Tryz.func91 rfl rfl rfl fun E F => ?_
 refine WC.slOpen 1 rfl fun sa sc hs hsg hsc => ?_
 subst hs
 cases sa with
 | none =>
  have h0 : us.length = 0 := by
   rcases Nat.eq_zero_or_pos us.length with h | h
   ·exact h
   ·obtain ⟨g, hg⟩ := hsg h; cases hg
  obtain rfl : us = [] := List.eq_nil_of_length_eq_zero h0
  refine jS (jh rfl (jM (jB (jS (jc rfl (jm (Val.eqlNil rfl) ?_))))))
  refine WL.slNil 154 1 ?_
  refine jW ?_
  refine jM (jF (jS (jh rfl (jM (jR (jU ?_))))))
  exact jP [0, 0] (jr1 rfl (jtS rfl)) ⟨rfl, _, ⟨_, _, _, rfl, rfl, OwnL.nil _ _ _ _⟩, rfl⟩
 | some a =>
  refine jS (jh rfl (jM (jB (jS (jc rfl (jm (Val.eqlNil rfl) ?_))))))
  refine jM (jE (jV (jK (WL.buildSlice (by with_unfolding_all exact rfl) rfl (by with_unfolding_all exact rfl) rfl (fun _ => ?_)))))
  refine jW ?_
  refine jc rfl (WL.boxSl (e := 154) (sz := 1) (n := 0) (xs := []) 2 rfl rfl (by decide) ?_)
  by_cases h0 : us.length = 0
  ·obtain rfl : us = [] := List.eq_nil_of_length_eq_zero h0
   refine WL.append0 2 rfl rfl rfl rfl ?_
   refine jh rfl (jM (jR ?_))
   exact jP [0, 0] (jr1 rfl (jtS rfl)) ⟨rfl, _, ⟨_, _, _, rfl, rfl, [], rfl, trivial⟩, rfl⟩
  ·obtain ⟨g, hg⟩ := hsg (by omega)
   cases hg
   refine WL.append 2 rfl rfl rfl (Rd.slN 1 rfl 0 css.flatten (fun q u h => by rw [Nat.zero_add]; exact h)) (by rw [e1, Nat.mul_one]) e2 rfl (by decide) (by omega) (by omega) (by unfold maxLen; omega) rfl fun g cap => ?_
   refine WL.nSet ?_
   refine jh rfl (jM (jR ?_))
   refine jP [0, 0] (jr1 rfl (jtS rfl)) ?_
   rw [Nat.zero_add]
   exact ⟨rfl, _, ⟨_, _, _, rfl, rfl, css, rfl, hall⟩, rfl⟩
theorem dCopyF (D : Dm) (d : Dr) (I : Mem) (hD : DAbs I D d) : Ctr Tryz.prog 26 [ptr D.b] I D.hp (fun v I' L' => I' = I ∧ ∃ M, (∃ D2 : Dm, v = ptr D2.b ∧ M = D2.hp ∧ DAbs I D2 d) ∧ L' = D.hp ++ M) :=
 Ctr.mono (dCopy D d I hD) fun v I' L' _ ⟨h1, D2, h2, h3, h4⟩ => ⟨h1, _, ⟨D2, h2, rfl, h4⟩, h3⟩
theorem hCopy (H : Hm) (d : Dr) (us rs : List (List Cm)) (ws ns : List Dr) (I : Mem) (hH : HAbs I H d us rs ws ns) : Ctr Tryz.prog 50 [ptr H.b] I (Hm.hp H) (fun v I' L' => I' = I ∧ ∃ H2 : Hm, v = ptr H2.b ∧ H2.bnd = H.bnd ∧ L' = Hm.hp H ++ Hm.hp H2 ∧ HAbs I H2 d us rs ws ns) := by
 obtain ⟨b, D, bnd, uv, rv, up, rp⟩ := H
 have hb1 := hH.b1
 have hb2 := hH.b2
 have hul := hH.ul
 have hrl := hH.rl
 simp only at hb1 hb2 hul hrl
 refine Ctr.intro Tryz.func50 rfl rfl rfl fun E F => ?_
 change WC _ _ _ _ [F, box b 153 [ptr D.b, vi bnd, uv, rv], up, rp, docBox D.b D.A.b D.mb D.segs, mp D.mb D.f D.cnt, _, _, _, _, _] _
 refine WC.ownOpen 2 rfl hH.u fun sa sc hs1 _ _ => ?_
 cases hs1
 refine WC.ownOpen 3 rfl hH.r fun ra rc hs2 _ _ => ?_
 cases hs2
 refine WC.layNil ?_
 refine WC.layNil ?_
 refine WC.layNil ?_
 change WC _ _ _ _ [F, box b 153 [ptr D.b, vi bnd, .slice sa us.length sc, .slice ra rs.length rc], up, rp, docBox D.b D.A.b D.mb D.segs, mp D.mb D.f D.cnt, _, _, _, _, _, sts [], sts [], sts []] _
 refine jS (ji rfl (jM (jB (j8 999 [1] rfl (jT 0 rfl (Val.moveP rfl) (jT 1 rfl (jr rfl) (jT 2 rfl (jn rfl) (jT 3 rfl (jp 0 rfl rfl rfl) (jT 5 rfl (Val.moveP rfl) (jT 6 rfl (jr rfl) (jT 7 rfl (jn rfl) (jT 8 rfl (jp 0 rfl rfl rfl) (jT 9 rfl (Val.moveP rfl) (jT 10 rfl (jr rfl) (jT 11 rfl (jn rfl) (jT 12 rfl (jp 0 rfl rfl rfl) (jT 14 rfl (Val.moveP rfl) (jT 15 rfl (jr rfl) (jT 16 rfl (jn rfl) (jT 17 rfl (jp 0 rfl rfl rfl) (j5 4 rfl (WL.callFill [4, 4, 4, 4, 4, 4, 4] 11 rfl rfl rfl rfl (dCopyF D d _ hH.dab) rfl ?_))))))))))))))))))))))
 rintro _ _ ⟨D2, rfl, rfl, hD2⟩
 refine WL.nSet ?_
 refine jC (j7 [1] rfl (j5 13 rfl (WL.callFill [2] 12 rfl rfl rfl rfl (sCloneSt us _ _ _ hH.u (by omega)) rfl ?_)))
 rintro _ _ ⟨up2, ua2, uc2, rfl, rfl, hu2⟩
 refine WL.nSet ?_
 refine jC (j7 [1] rfl (j5 18 rfl (WL.callFill [3] 13 rfl rfl rfl rfl (sCloneSt rs _ _ _ hH.r (by omega)) rfl ?_)))
 rintro _ _ ⟨rp2, ra2, rc2, rfl, rfl, hr2⟩
 refine WL.nSet ?_
 refine jC (j7 [1] rfl (j5 19 rfl (jm (Val.build (cs := [ptr D2.b, vi bnd, .slice ua2 us.length uc2, .slice ra2 rs.length rc2]) rfl) ?_)))
 refine jC (j7 [1] rfl (j5 20 rfl (WL.boxA rfl rfl (fun _ => ?_))))
 rename_i g
 refine jW ?_
 refine jC (j7 [1] rfl (jT 21 rfl (Val.assignP rfl) (j6 (jA (jR (WX.conv (fun w h => Sat.unfold3 h) ?_))))))
 change WX _ _ _ _ [F, _, _, _, _, _, _, _, _, _, _, _, _, _, _, _, _, _, _, _, _] _
 exact jP [0, 0, 0, 0, 0, 0, 0, 0, 0, 0, 0, 0, 0, 0, 0, 0, 0, 0, 0, 0] (jr1 rfl (ResIs.tmpP rfl)) ⟨rfl, ⟨g, D2, bnd, .slice ua2 us.length uc2, .slice ra2 rs.length rc2, up2, rp2⟩, rfl, rfl, rfl, ⟨hD2, hH.good, hu2, hr2, hH.cu, hH.cr, hH.ul, hH.rl, hH.su, hH.sr, hH.b1, hH.b2⟩⟩
end Go.Proofs.YtggcpoleklcmkaaGreatDoor

namespace Go.Hi
open Go.Sl Go.Ls Go.Tr Go.Dc
def Ac.small (a : Ac) : Prop := a.cms.length ≤ 70 ∧ ∀ c ∈ a.cms, small20 c
def smallA (l : List Ac) (m : Int) : Prop := (∀ a ∈ l, a.small) ∧ (l.length : Int) ≤ m
end Go.Hi
namespace Go.Proofs.YtggcpoleklcmkaaGreatDoor
open Go.Sl Go.Ls Go.Tr Go.Dc Go.Hi
attribute [local irreducible] WC WL WX WK WA WAK Val Ctr RunRes ResIs Rd At sl box pt Exit.then Exit.inBlock bodyPost Code.wp wpList
theorem smallAttr20 (a : Atr) (t u d q : Value) (I : Mem) (ha : a.at_ I t u d q) :
  Ctr Tryz.prog 87 [.agg (a.cs t u d q).toArray] I [] (Still I (EqP a.small)) := by
 obtain ⟨a1, c1, a2, c2, a3, c3, a4, c4, rfl, rfl, rfl, rfl⟩ := ha.sl
 refine Ctr.intro Tryz.func87 rfl rfl rfl fun E F => ?_
 refine jS (WL.boxA rfl rfl (fun _ => ?_))
 refine jW ?_
 refine jg rfl (jN (jm (jn rfl) (jm (jp 1 rfl rfl rfl) (jm (jo rfl) ?_))))
 refine WL.leI rfl rfl rfl (fun h => ?_) (fun h => ?_)
 refine jb rfl (jG (jm (jn rfl) (jG (jm (jn rfl) (jG (jm (jn rfl) (jG (jm (jp 1 rfl rfl rfl) (jG (jm (jo rfl) (jG ?_)))))))))))
 refine WL.leI rfl rfl rfl (fun h => ?_) (fun h => ?_)
 refine jk rfl (jb rfl (jG (jm (jn rfl) (jG (jm (jn rfl) (jG (jm (jn rfl) (jG (jm (jp 1 rfl rfl rfl) (jG (jm (jo rfl) (jG ?_))))))))))))
 refine WL.leI rfl rfl rfl (fun h => ?_) (fun h => ?_)
 refine jk rfl (jb rfl (jG (jm (jn rfl) (jG (jm (jn rfl) (jG (jm (jn rfl) (jG (jm (jp 1 rfl rfl rfl) (jG (jm (jo rfl) (jG ?_))))))))))))
 refine WL.leI rfl rfl rfl (fun h => ?_) (fun h => ?_)
 refine jk rfl (jg rfl (jM (jR ?_)))
 rotate_left
 refine jk rfl (jg rfl (jM (jR ?_)))
 rotate_left
 refine jk rfl (jb rfl (jH (jH (jH (jH (jH (jH (jk rfl (jg rfl (jM (jR ?_)))))))))))
 rotate_left
 refine jk rfl (jb rfl (jH (jH (jH (jH (jH (jH (jk rfl (jb rfl (jH (jH (jH (jH (jH (jH (jk rfl (jg rfl (jM (jR ?_)))))))))))))))))))
 rotate_left
 refine jb rfl (jH (jH (jH (jH (jH (jH (jk rfl (jb rfl (jH (jH (jH (jH (jH (jH (jk rfl (jb rfl (jH (jH (jH (jH (jH (jH (jk rfl (jg rfl (jM (jR ?_))))))))))))))))))))))))))
 rotate_left
 all_goals
  refine jP [] (jr1 rfl (jtB rfl)) ?_
 all_goals refine ⟨rfl, rfl, ?_⟩
 all_goals unfold Atr.small
 all_goals first | exact EqP.t (by omega) | exact EqP.f (by omega)
theorem smallActs (l : List Ac) (m : Int) (v : Value) (I : Mem) (hv : LsAt Ac.rep I l v) : Ctr Tryz.prog 47 [v, vi m] I [] (Still I (EqP (smallA l m))) := by
 have hv0 := hv
 have hle := hv.le
 unfold maxLen at hle
 obtain ⟨a1, c1, rfl⟩ := hv.sl
 refine Ctr.intro Tryz.func47 rfl rfl rfl fun E F => ?_
 refine jS (jg rfl (jM (jB (jS (jc rfl (jm (jo rfl) (ja rfl (jM (WC.block ?_)))))))))
 refine WC.loop (fun n ρ' I' L' => ∃ k : Nat, n = l.length - k ∧ k ≤ l.length ∧ I' = I ∧ ρ' 0 = .slice a1 l.length c1 ∧ ρ' 1 = vi m ∧ ρ' 11 = .slice a1 l.length c1 ∧ ρ' 12 = vi l.length ∧ ρ' 13 = vi k ∧ L' = [F] ∧ ∀ a ∈ l.take k, a.small)
  l.length ⟨0, rfl, by omega, rfl, rfl, rfl, rfl, rfl, rfl, rfl, by simp⟩ ?_
 rintro n ρ' I0 L' ⟨k, rfl, hk, rfl, r0, r1, r11, r12, r13, rfl, hall⟩
 refine ju5 r13 r12 r11 r1 r0 ?_
 by_cases hkn : k < l.length
 ·obtain ⟨b, off, cap, cs, he, ⟨av, rfl, hki, ha⟩, hA⟩ := hv0.get k hkn
  cases he
  have hmem := List.getElem_mem hkn
  have htk : l.take (k + 1) = l.take k ++ [l[k]] := by rw [List.take_succ_eq_append_getElem hkn]
  have hal := ha.le
  unfold maxLen at hal
  have ha0 := ha
  obtain ⟨a2, c2, rfl⟩ := ha.sl
  generalize l[k] = a at *
  by_cases h70 : 70 < a.cms.length
  ·skip
   refine jS (jy rfl rfl (jM (jB (jF (jV (jA (jB (WC.block (jS (jm (jZ rfl rfl) (jm (Val.loadI rfl (by assumption) rfl) ?_)))))))))))
   refine WL.alloc rfl (fun _ => ?_)
   refine jW ?_
   refine WL.stA 1 rfl rfl rfl rfl ?_
   refine jM (jB (jS (jm (jn rfl) (jm (jp 1 rfl rfl rfl) (jm (jo rfl) (jO rfl rfl (jM (jF (jS (jg rfl (jM (jR (jU (WX.inRet (jU (jU (WX.inRet (jU ?_))))))))))))))))))
   exact jP [] (jr1 rfl (jtB rfl)) ⟨rfl, rfl, EqP.f fun e => by have := (e.1 a hmem).1; omega⟩
  refine jS (jy rfl rfl (jM (jB (jF (jV (jA (jB (WC.block (jS (jm (jZ rfl rfl) (jm (Val.loadI rfl (by assumption) rfl) ?_)))))))))))
  refine WL.alloc rfl (fun _ => ?_)
  refine jW ?_
  refine WL.stA 1 rfl rfl rfl rfl ?_
  refine jM (jB (jS (jm (jn rfl) (jm (jp 1 rfl rfl rfl) (jm (jo rfl) (jL rfl rfl (jM (jE (jV (jK (jm (jn rfl) (jm (jp 1 rfl rfl rfl) (jm (jo rfl) (ja rfl (jM (WC.block (WC.conv (fun w h => h.sub [0] rfl) ?_)))))))))))))))))
  refine WC.loop (fun n ρ' I' L' => ∃ j : Nat, n = a.cms.length - j ∧ j ≤ a.cms.length ∧ I' = I0 ∧ ρ' 0 = .slice (some ⟨b, off, none⟩) l.length c1 ∧ ρ' 1 = vi m ∧ ρ' 11 = .slice (some ⟨b, off, none⟩) l.length c1 ∧ ρ' 12 = vi l.length ∧ ρ' 13 = vi k ∧ ρ' 22 = .slice a2 a.cms.length c2 ∧ ρ' 23 = vi a.cms.length ∧ ρ' 24 = vi j ∧ L' = [F] ∧ ∀ c ∈ a.cms.take j, small20 c)
   a.cms.length ⟨0, rfl, by omega, rfl, rfl, rfl, rfl, rfl, rfl, rfl, rfl, rfl, rfl, by simp⟩ ?_
  rintro n ρ' I1 L' ⟨j, rfl, hj, rfl, r0, r1, r11, r12, r13, r22, r23, r24, rfl, hallj⟩
  refine ju8 r24 r23 r22 r13 r12 r11 r1 r0 ?_
  by_cases hjn : j < a.cms.length
  ·obtain ⟨b3, off3, cap3, cs3, he3, ⟨e, t, u, d, q, rfl, hc⟩, hA3⟩ := ha0.get j hjn
   cases he3
   have hmc := List.getElem_mem hjn
   have htj : a.cms.take (j + 1) = a.cms.take j ++ [a.cms[j]] := by rw [List.take_succ_eq_append_getElem hjn]
   have hca := hc.atr
   have hce := hc.ents
   have hcl := hce.le
   unfold maxLen at hcl
   obtain ⟨x0, y0, x1, y1, x2, y2, x3, y3, x4, y4, rfl, rfl, rfl, rfl, rfl⟩ := hc.sl
   generalize a.cms[j] = c at *
   by_cases h20 : 20 < c.ents.length
   ·skip
    refine jS (jy rfl rfl (jM (jB (jF (jV (jA (jB (WC.block (jS (jm (jZ rfl rfl) (jm (Val.loadI rfl (by assumption) rfl) ?_)))))))))))
    refine WL.alloc rfl (fun _ => ?_)
    refine jW ?_
    refine WL.stA 1 rfl rfl rfl rfl ?_
    refine jM (jB (jS (jm (jn rfl) (jm (jp 1 rfl rfl rfl) (jm (jo rfl) (jO rfl rfl (jb rfl (jH (jH (jH (jH (jk rfl (jM (jF (jS (jg rfl (jM (jR (jU (WX.inRet (jU (jU (WX.inRet (WX.inRet (jU (jU (WX.inRet (jU ?_))))))))))))))))))))))))))))
    exact jP [] (jr1 rfl (jtB rfl)) ⟨rfl, rfl, EqP.f fun e => by have := ((e.1 a hmem).2 c hmc).2; omega⟩
   refine jS (jy rfl rfl (jM (jB (jF (jV (jA (jB (WC.block (jS (jm (jZ rfl rfl) (jm (Val.loadI rfl (by assumption) rfl) ?_)))))))))))
   refine WL.alloc rfl (fun _ => ?_)
   refine jW ?_
   refine WL.stA 1 rfl rfl rfl rfl ?_
   refine jM (jB (jS (jm (jn rfl) (jm (jp 1 rfl rfl rfl) (jm (jo rfl) (jL rfl rfl (jb rfl (jG (jm (jn rfl) (jG (jm (jt 1 rfl rfl rfl) (jG ?_))))))))))))
   refine WL.callE rfl rfl (smallAttr20 c.atr _ _ _ _ _ hca) rfl (fun hs => ?_) (fun hs => ?_)
   case refine_2 =>
    refine jG (jl rfl (jk rfl (jM (jF (jS (jg rfl (jM (jR (jU (WX.inRet (jU (jU (WX.inRet (WX.inRet (jU (jU (WX.inRet (jU ?_))))))))))))))))))
    exact jP [] (jr1 rfl (jtB rfl)) ⟨rfl, rfl, EqP.f fun e => hs ((e.1 a hmem).2 c hmc).1.2.1⟩
   refine jG (jl rfl (jk rfl (jM (jE (jV (jK (jm (jn rfl) (jm (jp 1 rfl rfl rfl) (jm (jo rfl) (ja rfl (jM (WC.block (WC.conv (fun w h => h.sub [0] rfl) ?_)))))))))))))
   refine WC.loop (fun n ρ' I' L' => ∃ i : Nat, n = c.ents.length - i ∧ i ≤ c.ents.length ∧ I' = I1 ∧ ρ' 0 = .slice (some ⟨b, off, none⟩) l.length c1 ∧ ρ' 1 = vi m ∧ ρ' 11 = .slice (some ⟨b, off, none⟩) l.length c1 ∧ ρ' 12 = vi l.length ∧ ρ' 13 = vi k ∧ ρ' 22 = .slice (some ⟨b3, off3, none⟩) a.cms.length c2 ∧ ρ' 23 = vi a.cms.length ∧ ρ' 24 = vi j ∧ ρ' 39 = .slice x0 c.ents.length y0 ∧ ρ' 40 = vi c.ents.length ∧ ρ' 41 = vi i ∧ L' = [F] ∧ ∀ x ∈ c.ents.take i, x.atr.small)
    c.ents.length ⟨0, rfl, by omega, rfl, rfl, rfl, rfl, rfl, rfl, rfl, rfl, rfl, rfl, rfl, rfl, rfl, by simp⟩ ?_
   rintro n ρ' I2 L' ⟨i, rfl, hi, rfl, r0, r1, r11, r12, r13, r22, r23, r24, r39, r40, r41, rfl, halli⟩
   refine ju11 r41 r40 r39 r24 r23 r22 r13 r12 r11 r1 r0 ?_
   by_cases hin : i < c.ents.length
   ·obtain ⟨b5, off5, cap5, cs5, he5, ⟨t5, u5, d5, q5, rfl, hx⟩, hA5⟩ := hce.get i hin
    cases he5
    have hmx := List.getElem_mem hin
    have hti : c.ents.take (i + 1) = c.ents.take i ++ [c.ents[i]] := by rw [List.take_succ_eq_append_getElem hin]
    have hxa := hx.atr
    obtain ⟨p1, o1, p2, o2, p3, o3, p4, o4, rfl, rfl, rfl, rfl⟩ := hx.sl
    generalize c.ents[i] = x at *
    refine jS (jy rfl rfl (jM (jB (jF (jV (jA (jB (WC.block (jS (jm (jZ rfl rfl) (jm (Val.loadI rfl (by assumption) rfl) ?_)))))))))))
    refine WL.alloc rfl (fun _ => ?_)
    refine jW ?_
    refine WL.stA 1 rfl rfl rfl rfl ?_
    refine jN (jm (jn rfl) (jm (jt 1 rfl rfl rfl) ?_))
    refine WL.callE rfl rfl (smallAttr20 x.atr _ _ _ _ _ hxa) rfl (fun hs2 => ?_) (fun hs2 => ?_)
    case refine_2 =>
     refine jl rfl (jM (jF (jS (jg rfl (jM (jR (WX.inRet (jU (jU (WX.inRet (WX.inRet (jU (jU (WX.inRet (WX.inRet (jU (jU (WX.inRet (jU ?_)))))))))))))))))))
     exact jP [] (jr1 rfl (jtB rfl)) ⟨rfl, rfl, EqP.f fun e => hs2 (((e.1 a hmem).2 c hmc).1.2.2 x hmx)⟩
    refine jl rfl (jM (jE (jV (WX.inNormal (jA (jD (jX rfl rfl (ja rfl (jC (WX.conv (fun w h => h.sub [0] rfl) ?_))))))))))
    refine WX.thenK (WK.round (c.ents.length - (i + 1)) (by omega) ⟨i + 1, rfl, by omega, rfl, rfl, rfl, rfl, rfl, rfl, rfl, rfl, rfl, rfl, rfl, rfl, rfl, ?_⟩)
    rw [hti]
    intro y hy
    rcases List.mem_append.1 hy with hy | hy
    ·exact halli y hy
    ·rw [List.mem_singleton.1 hy]; exact hs2
   ·have hie : i = c.ents.length := by omega
    subst hie
    rw [List.take_length] at halli
    refine jS (jx rfl rfl (jM (jB (jE (WC.exit (WX.thenExit (WX.thenExit (WX.inHit (WX.inNormal (jA (jD (jX rfl rfl (ja rfl (jC ?_))))))))))))))
    refine WX.thenK (WK.round (a.cms.length - (j + 1)) (by omega) ⟨j + 1, rfl, by omega, rfl, rfl, rfl, rfl, rfl, rfl, rfl, rfl, rfl, rfl, ?_⟩)
    rw [htj]
    intro y hy
    rcases List.mem_append.1 hy with hy | hy
    ·exact hallj y hy
    ·rw [List.mem_singleton.1 hy]; exact ⟨⟨by omega, hs, halli⟩, by omega⟩
  ·have hjl : j = a.cms.length := by omega
   subst hjl
   rw [List.take_length] at hallj
   refine jS (jx rfl rfl (jM (jB (jE (WC.exit (WX.thenExit (WX.thenExit (WX.inHit (WX.inNormal (jA (jD (jX rfl rfl (ja rfl (jC ?_))))))))))))))
   refine WX.thenK (WK.round (l.length - (k + 1)) (by omega) ⟨k + 1, rfl, by omega, rfl, rfl, rfl, rfl, rfl, rfl, rfl, ?_⟩)
   rw [htk]
   intro y hy
   rcases List.mem_append.1 hy with hy | hy
   ·exact hall y hy
   ·rw [List.mem_singleton.1 hy]; exact ⟨by omega, hallj⟩
 ·have hkl : k = l.length := by omega
  subst hkl
  rw [List.take_length] at hall
  by_cases hm : (l.length : Int) ≤ m
  ·skip
   refine jS (jx rfl rfl (jM (jB (jE (WC.exit (WX.thenExit (WX.thenExit (WX.inHit (jK (jc rfl (jm (jo rfl) (ja rfl (jm (Val.leq rfl rfl (decide_eq_true (by omega))) ?_)))))))))))))
   refine jg rfl (jM (jR ?_))
   exact jP [] (jr1 rfl (jtB rfl)) ⟨rfl, rfl, EqP.t ⟨hall, hm⟩⟩
  ·skip
   refine jS (jx rfl rfl (jM (jB (jE (WC.exit (WX.thenExit (WX.thenExit (WX.inHit (jK (jc rfl (jm (jo rfl) (ja rfl (jm (Val.leq rfl rfl (decide_eq_false (by omega))) ?_)))))))))))))
   refine jg rfl (jM (jR ?_))
   exact jP [] (jr1 rfl (jtB rfl)) ⟨rfl, rfl, EqP.f fun e => hm e.2⟩
theorem errD_len {d : Dr} {l : List Cm} (h : errD d l = 0) : l.length ≤ 64 := by
 unfold errD at h
 split at h
 ·omega
 ·split at h
  ·cases h
  ·omega
def NextR (b bnd k : Nat) : Value → Mem → List HP → Prop := fun v I' L' => ∃ (e : Int) (H' : Hm) (d' : Dr) (us' rs' : List (List Cm)) (ws' ns' : List Dr), v = vi e ∧ H'.b = b ∧ H'.bnd = bnd ∧ L' = Hm.hp H' ∧ HAbs I' H' d' us' rs' ws' ns' ∧ Past bnd (k + 1) d' us' rs' ws' ns'
section
variable (H : Hm) (d : Dr) (us rs : List (List Cm)) (ws ns : List Dr) (I : Mem) (k : Nat) (hN : NeedAt I) (hH : HAbs I H d us rs ws ns) (hP : Past H.bnd k d us rs ws ns)
include hN hH hP
theorem hDoN (l : List Cm) (v : Value) (hv : LsAt Cm.rep I l v) (hs : ∀ c ∈ l, small20 c) (hk : k < 25) : Ctr Tryz.prog 41 [ptr H.b, v] I (Hm.hp H) (NextR H.b H.bnd k) :=
 Ctr.mono (hDo H d l v us rs ws ns I hN hH hv fun h64 => fits20 hs (by have := hP.segs.d; omega)) fun v I' L' _ ⟨H', h1, h2, h3, h4, h5⟩ => by
  rcases h5 with ⟨_, h5⟩ | ⟨h0, d', bs, hr, h5⟩
  ·exact ⟨_, H', d, us, rs, ws, ns, h4, h1, h2, h3, h5, hP.more⟩
  ·exact ⟨_, H', d', _, _, _, _, h4, h1, h2, h3, h5, hP.run hH.cu.len hr hs (errD_len h0)⟩
theorem hUndoN : Ctr Tryz.prog 44 [ptr H.b] I (Hm.hp H) (NextR H.b H.bnd k) :=
 Ctr.mono (hUndo H d us rs ws ns I hN hH) fun v I' L' hI h => by
  rcases h with ⟨_, rfl, rfl⟩ | ⟨H', u1, s, w, w1, bs, rfl, rfl, rfl, h1, h2, h3, h4⟩
  ·exact ⟨_, H, d, us, rs, ws, ns, rfl, rfl, rfl, rfl, hH.mono hI, hP.more⟩
  ·rw [if_neg (by decide)] at h4
   exact ⟨_, H', w, _, _, _, _, rfl, h1, h2, h3, h4, hP.undo⟩
theorem hRedoN : Ctr Tryz.prog 51 [ptr H.b] I (Hm.hp H) (NextR H.b H.bnd k) :=
 Ctr.mono (hRedo H d us rs ws ns I hN hH) fun v I' L' hI h => by
  rcases h with ⟨_, rfl, rfl⟩ | ⟨H', u1, s, w, w1, bs, rfl, rfl, rfl, h1, h2, h3, h4⟩
  ·exact ⟨_, H, d, us, rs, ws, ns, rfl, rfl, rfl, rfl, hH.mono hI, hP.more⟩
  ·rw [if_pos rfl] at h4
   exact ⟨_, H', w, _, _, _, _, rfl, h1, h2, h3, h4, hP.redo hH.cu.len⟩
end
def RunR (bound : Int) (l : List Ac) : Value → Mem → List HP → Prop := fun v I' L' => (v = .pointer none ∧ L' = []) ∨
 ∃ (H : Hm) (d : Dr) (us rs : List (List Cm)) (ws ns : List Dr), v = ptr H.b ∧ (H.bnd : Int) = bound ∧ L' = Hm.hp H ∧ HAbs I' H d us rs ws ns ∧ Past H.bnd l.length d us rs ws ns ∧ smallA l 25
theorem hRun (bound : Int) (l : List Ac) (v : Value) (I : Mem) (hN : NeedAt I) (hb64 : I64 bound) (hv : LsAt Ac.rep I l v) : Ctr Tryz.prog 49 [vi bound, v] I [] (RunR bound l) := by
 have hv0 := hv
 obtain ⟨a1, c1, rfl⟩ := hv.sl
 refine Ctr.intro Tryz.func49 rfl rfl rfl fun E F => ?_
 refine jS (ji rfl (jN (ja rfl (WL.callP [] rfl rfl (hNew bound _ hb64) rfl ?_))))
 rintro _ I1 _ _ ⟨rfl, (⟨_, rfl, rfl⟩ | ⟨hb1, hb2, H0, rfl, hb0, rfl, hH0⟩)⟩
 ·refine WL.nApp ?_
  refine ji rfl (jM (jB (jS (jd rfl (jm (Val.eqlNilP rfl) ?_)))))
  refine jb rfl (jH (jH (jH (jk rfl (jM (jF (jS (ji rfl (jM (jR (jU ?_)))))))))))
  exact jP [] (jr1 rfl (ResIs.tmpP rfl)) (.inl ⟨rfl, rfl⟩)
 change WL _ _ _ _ _ (_ ++ [_, _, _, _, _, _, _, _, _, _]) _
 refine jW ?_
 refine ji rfl (jM (jB (jS (jd rfl (jm (Val.eqlNilP rfl) ?_)))))
 refine jb rfl (jG (jc rfl (jG ?_)))
 refine WL.callE rfl rfl (smallActs l 25 _ _ hv0) rfl (fun hs => ?_) (fun hs => ?_)
 case refine_2 =>
  refine jG (jl rfl (jk rfl (jM (jF (jS (ji rfl (jM (jR (jU ?_)))))))))
  exact jP [] (jr1 rfl (ResIs.tmpP rfl)) (.inl ⟨rfl, rfl⟩)
 have hl25 := hs.2
 refine jG (jl rfl (jk rfl (jM (jE (jV (jA (jB (jS (jc rfl (jm (jo rfl) (ja rfl (jM (WC.block ?_)))))))))))))
 refine WC.loop (fun n ρ' I' L' => ∃ (k : Nat) (H : Hm) (d : Dr) (us rs : List (List Cm)) (ws ns : List Dr), n = l.length - k ∧ k ≤ l.length ∧ I1.le I' ∧ ρ' 5 = ptr H.b ∧ ρ' 17 = .slice a1 l.length c1 ∧ ρ' 18 = vi l.length ∧ ρ' 19 = vi k ∧ L' = F :: Hm.hp H ∧ (H.bnd : Int) = bound ∧ HAbs I' H d us rs ws ns ∧ Past H.bnd k d us rs ws ns)
  l.length ⟨0, H0, Dr.new, [], [], [], [], rfl, Nat.zero_le _, Mem.le.refl _, rfl, rfl, rfl, rfl, rfl, hb0, hH0, Past.start _⟩ ?_
 clear hH0 hb0
 rintro n ρ' I2 L' ⟨k, H, d, us, rs, ws, ns, rfl, hk, hI2, r5, r17, r18, r19, rfl, hbn, hH, hP⟩
 refine ju4 r19 r18 r17 r5 ?_
 change WC _ _ _ _ [F, _, _, _, _, _, _, _, _, _, _] _
 have hN2 := hN.mono hI2
 by_cases hkn : k < l.length
 ·obtain ⟨b, off, cap, cs, he, ⟨av, rfl, hki, ha⟩, hA⟩ := (hv0.mono hI2).get k hkn
  cases he
  have hsa := hs.1 _ (List.getElem_mem hkn)
  have ha0 := ha
  obtain ⟨a2, c2, rfl⟩ := ha.sl
  generalize l[k] = a at *
  by_cases k1 : a.kind = 1
  ·skip
   refine jS (jy rfl rfl (jM (jB (jF (jV (jA (jB (WC.block (jS (jm (jZ rfl rfl) (jm (Val.loadI rfl (by assumption) rfl) ?_)))))))))))
   refine WL.alloc rfl (fun _ => ?_)
   refine jW ?_
   refine WL.stA 11 rfl rfl rfl rfl ?_
   refine jN (jm (jn rfl) (jm (jp 11 rfl rfl rfl) (jM (WC.block (jS (jw rfl rfl (jg rfl (jM (jF (jD (jd rfl (jm (jn rfl) (jm (jp 11 rfl rfl rfl) (WL.callP [1, 1, 1, 1, 1, 1, 1, 1, 1, 1] rfl rfl (hDoN H d us rs ws ns _ k hN2 hH hP a.cms _ ha0 hsa.2 (by omega)) rfl ?_))))))))))))))
   rintro _ I3 _ hI3 ⟨er, H1, d1, us1, rs1, ws1, ns1, rfl, hb, hbn1, rfl, hH1, hP1⟩
   rw [← hb]
   change WL _ _ _ _ _ (_ ++ [_, _, _, _, _, _, _, _, _, _]) _
   refine jW ?_
   rw [← hbn1] at hP1
   exact jC (WX.inNormal (WX.inNormal (jA (jD (jX rfl rfl (ja rfl (jC (WX.conv (fun w h => h.sub [0, 1, 1, 1, 1, 1, 1, 1, 1, 1, 1] rfl) (WX.thenK (WK.round (l.length - (k + 1)) (by omega) ⟨k + 1, H1, d1, us1, rs1, ws1, ns1, rfl, by omega, hI2.trans hI3, rfl, rfl, rfl, rfl, rfl, by rw [hbn1]; exact hbn, hH1, hP1⟩))))))))))
  by_cases k2 : a.kind = 2
  ·skip
   refine jS (jy rfl rfl (jM (jB (jF (jV (jA (jB (WC.block (jS (jm (jZ rfl rfl) (jm (Val.loadI rfl (by assumption) rfl) ?_)))))))))))
   refine WL.alloc rfl (fun _ => ?_)
   refine jW ?_
   refine WL.stA 11 rfl rfl rfl rfl ?_
   refine jN (jm (jn rfl) (jm (jp 11 rfl rfl rfl) (jM (WC.block (jCf rfl rfl (jS (jw rfl rfl (jg rfl (jM (jF (jD (jd rfl (WL.callP [1, 1, 1, 1, 1, 1, 1, 1, 1, 1] rfl rfl (hUndoN H d us rs ws ns _ k hN2 hH hP) rfl ?_)))))))))))))
   rintro _ I3 _ hI3 ⟨er, H1, d1, us1, rs1, ws1, ns1, rfl, hb, hbn1, rfl, hH1, hP1⟩
   rw [← hb]
   change WL _ _ _ _ _ (_ ++ [_, _, _, _, _, _, _, _, _, _]) _
   refine jW ?_
   rw [← hbn1] at hP1
   exact jC (WX.inNormal (WX.inNormal (jA (jD (jX rfl rfl (ja rfl (jC (WX.conv (fun w h => h.sub [0, 1, 1, 1, 1, 1, 1, 1, 1, 1, 1] rfl) (WX.thenK (WK.round (l.length - (k + 1)) (by omega) ⟨k + 1, H1, d1, us1, rs1, ws1, ns1, rfl, by omega, hI2.trans hI3, rfl, rfl, rfl, rfl, rfl, by rw [hbn1]; exact hbn, hH1, hP1⟩))))))))))
  by_cases k3 : a.kind = 3
  ·skip
   refine jS (jy rfl rfl (jM (jB (jF (jV (jA (jB (WC.block (jS (jm (jZ rfl rfl) (jm (Val.loadI rfl (by assumption) rfl) ?_)))))))))))
   refine WL.alloc rfl (fun _ => ?_)
   refine jW ?_
   refine WL.stA 11 rfl rfl rfl rfl ?_
   refine jN (jm (jn rfl) (jm (jp 11 rfl rfl rfl) (jM (WC.block (jCf rfl rfl (jCf rfl rfl (jS (jw rfl rfl (jg rfl (jM (jF (jD (jd rfl (WL.callP [1, 1, 1, 1, 1, 1, 1, 1, 1, 1] rfl rfl (hRedoN H d us rs ws ns _ k hN2 hH hP) rfl ?_))))))))))))))
   rintro _ I3 _ hI3 ⟨er, H1, d1, us1, rs1, ws1, ns1, rfl, hb, hbn1, rfl, hH1, hP1⟩
   rw [← hb]
   change WL _ _ _ _ _ (_ ++ [_, _, _, _, _, _, _, _, _, _]) _
   refine jW ?_
   rw [← hbn1] at hP1
   exact jC (WX.inNormal (WX.inNormal (jA (jD (jX rfl rfl (ja rfl (jC (WX.conv (fun w h => h.sub [0, 1, 1, 1, 1, 1, 1, 1, 1, 1, 1] rfl) (WX.thenK (WK.round (l.length - (k + 1)) (by omega) ⟨k + 1, H1, d1, us1, rs1, ws1, ns1, rfl, by omega, hI2.trans hI3, rfl, rfl, rfl, rfl, rfl, by rw [hbn1]; exact hbn, hH1, hP1⟩))))))))))
  refine jS (jy rfl rfl (jM (jB (jF (jV (jA (jB (WC.block (jS (jm (jZ rfl rfl) (jm (Val.loadI rfl (by assumption) rfl) ?_)))))))))))
  refine WL.alloc rfl (fun _ => ?_)
  refine jW ?_
  refine WL.stA 11 rfl rfl rfl rfl ?_
  exact jN (jm (jn rfl) (jm (jp 11 rfl rfl rfl) (jM (WC.block (jCf rfl rfl (jCf rfl rfl (jCf rfl rfl (jV (WX.inNormal (WX.inNormal (jA (jD (jX rfl rfl (ja rfl (jC (WX.conv (fun w h => h.sub [0, 0, 0, 0, 0, 0, 0, 0, 0, 0, 0] rfl) (WX.thenK (WK.round (l.length - (k + 1)) (by omega) ⟨k + 1, H, d, us, rs, ws, ns, rfl, by omega, hI2, rfl, rfl, rfl, rfl, rfl, hbn, hH, hP.more⟩))))))))))))))))))
 ·have hkl : k = l.length := by omega
  subst hkl
  refine jS (jx rfl rfl (jM (jB (jE (WC.exit (WX.thenExit (WX.thenExit (WX.inHit (jK (jd rfl (ji rfl (jM (jR ?_)))))))))))))
  exact jP [0, 0, 0, 0, 0, 0, 0, 0, 0, 0] (jr1 rfl (ResIs.tmpP rfl)) (.inr ⟨H, d, us, rs, ws, ns, rfl, hbn, rfl, hH, hP, hs⟩)
end Go.Proofs.YtggcpoleklcmkaaGreatDoor

namespace Go.Sl
open Go.Ls
section
variable {Γ : Cx} {ops : Array Oper} {rest : List Oper} {ρ : Nat → Value} {I : Mem} {L : List HP} {Q : Post} {ty : TypeId} {ps : String} {af : Array Edge}
theorem WL.callEK {d : Nat} {f : FuncId} {x : Operand} {args : List Operand} {ats : Array TypeId} {fs cp vs : List Value} {Lc Lr : List HP} {p : Prop} (ks : List Nat) [hf : FnK Γ.P f]
  (hx : ev ρ x = .func (.func f) fs.toArray cp.toArray) (hv : fs ++ args.map (ev ρ) ++ cp = vs) (hp : picks ks L = some (Lc, Lr)) (hc : Ctr Γ.P f vs I Lc (KeepR Lc fun v _ => EqP p v)) (hd : Nat.blt d Γ.n = true)
  (ht : ∀ I', I.le I' → p → WL Γ ops rest (upd ρ d (.bool true)) I' L Q) (hf : ∀ I', I.le I' → ¬ p → WL Γ ops rest (upd ρ d (.bool false)) I' L Q) :
  WL Γ ops ({ dst := some d, op := .call { callee := .value x, args := args.toArray, argTypes := ats }, type := ty, pos := ps, after := af, guard := none } :: rest) ρ I L Q :=
 WL.callR ks hx hv hp hc hd fun v I' hI ⟨b, hb, hq⟩ => by
  subst hb
  cases b
  ·exact hf I' hI fun h => by have := hq.2 h; cases this
  ·exact ht I' hI (hq.1 rfl)
end
end Go.Sl
namespace Go.Hi
open Go.Sl Go.Ls Go.Tr Go.Dc
instance : RepLen Step.rep 1 := ⟨fun ⟨v, h, _⟩ => by rw [h]; rfl⟩
theorem step_at {I : Mem} {us : List (List Cm)} {css : List (List Value)} (hall : All2 (Step.rep I) us css) (k : Nat) (hk : k < us.length) : ∃ a c, LsAt Cm.rep I us[k] (.slice a us[k].length c) ∧ ∀ q u, [Value.slice a us[k].length c][q]? = some u → css.flatten[0 + (k : Int).toNat * 1 + q]? = some u := by
 have hl : k < css.length := by rw [← hall.len]; exact hk
 obtain ⟨v, h1, h2⟩ := hall.nth k hk hl
 obtain ⟨a, c, rfl⟩ := h2.sl
 refine ⟨a, c, h2, fun q u h => flat_row (by decide) hall.lens k hl q u (by rw [h1]; exact h)⟩
end Go.Hi
namespace Go.Proofs.YtggcpoleklcmkaaGreatDoor
open Go.Sl Go.Ls Go.Tr Go.Dc Go.Hi
theorem cmsEqF (l m : List Cm) (v u : Value) (I : Mem) (hv : LsAt Cm.rep I l v) (hu : LsAt Cm.rep I m u) :
  Ctr Tryz.prog 155 [v, u, .func (.func 156) #[] #[]] I [] (Still I (EqP (l = m))) := by
 have hlb : l.length ≤ 9223372036854775807 := by obtain ⟨_, h, _⟩ := hv; exact h.le
 obtain ⟨a1, c1, rfl⟩ := hv.sl
 obtain ⟨a2, c2, rfl⟩ := hu.sl
 refine Ctr.intro Tryz.func155 rfl rfl rfl fun E F => ?_
 by_cases hne : l.length = m.length
 ·skip
  refine jS (jg rfl (jM (jB (jS (jc rfl (jm (jo rfl) (jc rfl (jm (jo rfl) (jz rfl rfl (jM (jE (jV (jA (jB (jS (jc rfl (jm (jo rfl) (ja rfl (jM (WC.block ?_))))))))))))))))))))
  refine WC.loop (fun q ρ' I' L' => ∃ k : Nat, q = l.length - k ∧ k ≤ l.length ∧ I' = I ∧ ρ' 1 = .slice a2 m.length c2 ∧ ρ' 2 = .func (.func 156) #[] #[] ∧ ρ' 15 = .slice a1 l.length c1 ∧ ρ' 16 = vi l.length ∧ ρ' 17 = vi k ∧ L' = [F] ∧ l.take k = m.take k)
   l.length ⟨0, rfl, by omega, rfl, rfl, rfl, rfl, rfl, rfl, rfl, rfl⟩ ?_
  rintro q ρ' I0 L' ⟨k, rfl, hk, rfl, h1, h2, h15, h16, h17, rfl, heq⟩
  refine ju5 h17 h16 h15 h2 h1 ?_
  by_cases hkn : k < l.length
  ·have hkm : k < m.length := by omega
   obtain ⟨b, off, cap', cs, he, ⟨t0, t1, t2, t3, t4, rfl, hi⟩, hA⟩ := hv.get k hkn
   cases he
   obtain ⟨b', off', cap'', cs', he', ⟨u0, u1, u2, u3, u4, rfl, hi'⟩, hA'⟩ := hu.get k hkm
   cases he'
   have htk := take_more heq hkn hkm
   generalize hx : l[k] = x at *
   generalize hy : m[k] = y at *
   obtain ⟨b0, r0, b1, r1, b2, r2, b3, r3, b4, r4, rfl, rfl, rfl, rfl, rfl⟩ := hi.sl
   obtain ⟨p0, q0, p1, q1, p2, q2, p3, q3, p4, q4, rfl, rfl, rfl, rfl, rfl⟩ := hi'.sl
   refine jS (jy rfl rfl (jM (jB (jF (jV (jA (jB (WC.block (jS (ja rfl (jm (jZ rfl rfl) (jm (Val.loadI rfl (by assumption) rfl) ?_))))))))))))
   refine WL.alloc rfl (fun _ => ?_)
   refine jW ?_
   refine jf rfl (WL.stA 1 rfl rfl rfl rfl ?_)
   refine jN (jc rfl (ja rfl (jm (jZ rfl rfl) (jm (Val.loadI rfl (by assumption) rfl) ?_))))
   refine WL.alloc rfl (fun _ => ?_)
   refine jW ?_
   refine WL.stA 2 rfl rfl rfl rfl ?_
   refine jN (jm (Val.moveF rfl) (jm (jt 1 rfl rfl rfl) (jm (jt 2 rfl rfl rfl) ?_)))
   refine WL.callE rfl rfl (eqCm x y _ _ _ _ _ _ _ _ _ _ _ hi hi') rfl (fun h => ?_) (fun h => ?_)
   ·skip
    exact jl rfl (jM (jE (jV (WX.inNormal (jA (jD (jX rfl rfl (ja rfl (jC (WX.conv (fun w h => h.sub [0] rfl) (WX.thenK (WK.round (l.length - (k + 1)) (by omega) ⟨k + 1, rfl, by omega, rfl, rfl, rfl, rfl, rfl, rfl, rfl, htk h⟩))))))))))))
   ·skip
    refine jl rfl (jM (jF (jS (jg rfl (jM (jR (WX.inRet (jU (jU (WX.inRet (jU ?_)))))))))))
    refine jP [] (jr1 rfl (jtB rfl)) ?_
    refine ⟨rfl, rfl, EqP.f fun e => ?_⟩
    subst e
    exact h (hx.symm.trans hy)
  ·skip
   refine jS (jx rfl rfl (jM (jB (jE (WC.exit (WX.thenExit (WX.thenExit (WX.inHit (jK (jg rfl (jM (jR ?_))))))))))))
   refine jP [] (jr1 rfl (jtB rfl)) ?_
   refine ⟨rfl, rfl, EqP.t ?_⟩
   have : k = l.length := by omega
   rw [this, List.take_length, hne, List.take_length] at heq
   exact heq
 ·skip
  refine jS (jg rfl (jM (jB (jS (jc rfl (jm (jo rfl) (jc rfl (jm (jo rfl) (jJ rfl rfl (jM (jF (jS (jg rfl (jM (jR (jU ?_))))))))))))))))
  exact jP [] (jr1 rfl (jtB rfl)) ⟨rfl, rfl, EqP.f fun h => hne (by rw [h])⟩
theorem stepEq (l m : List Cm) (v u : Value) (I : Mem) (hv : LsAt Cm.rep I l v) (hu : LsAt Cm.rep I m u) : Ctr Tryz.prog 125 [v, u] I [] (Still I (EqP (l = m))) := by
 have hv0 := hv
 have hu0 := hu
 obtain ⟨a1, c1, rfl⟩ := hv.sl
 obtain ⟨a2, c2, rfl⟩ := hu.sl
 refine Ctr.intro Tryz.func125 rfl rfl rfl fun E F => ?_
 refine jS (jg rfl (jN (jc rfl (jc rfl ?_))))
 refine WL.callE rfl rfl (cmsEqF _ _ _ _ _ hv0 hu0) rfl (fun h => ?_) (fun h => ?_)
 ·skip
  refine jg rfl (jM (jR ?_))
  exact jP [] (jr1 rfl (jtB rfl)) ⟨rfl, rfl, EqP.t h⟩
 ·skip
  refine jg rfl (jM (jR ?_))
  exact jP [] (jr1 rfl (jtB rfl)) ⟨rfl, rfl, EqP.f h⟩
theorem stepsEqF (l m : List (List Cm)) (v u : Value) (p q : HP) (I : Mem) (hp : OwnL Step.rep 154 1 I l v p) (hq : OwnL Step.rep 154 1 I m u q) (hlb : l.length ≤ 100000) :
  Ctr Tryz.prog 124 [v, u, .func (.func 125) #[] #[]] I [p, q] (Keep I [p, q] (EqP (l = m))) := by
 refine Ctr.intro Tryz.func124 rfl rfl rfl fun E F => ?_
 refine WC.ownOpen 1 rfl hp fun a1 c1 hs1 hg1 _ => ?_
 cases hs1
 refine WC.ownOpen 2 rfl hq fun a2 c2 hs2 hg2 _ => ?_
 cases hs2
 obtain ⟨css, rfl, hall⟩ := hp
 obtain ⟨dss, rfl, hall2⟩ := hq
 by_cases hne : l.length = m.length
 ·skip
  refine jS (jg rfl (jM (jB (jS (jc rfl (jm (jo rfl) (jc rfl (jm (jo rfl) (jz rfl rfl (jM (jE (jV (jA (jB (jS (jc rfl (jm (jo rfl) (ja rfl (jM (WC.block ?_))))))))))))))))))))
  refine WC.loop (fun q ρ' I' L' => ∃ k : Nat, q = l.length - k ∧ k ≤ l.length ∧ I' = I ∧ ρ' 1 = .slice a2 m.length c2 ∧ ρ' 2 = .func (.func 125) #[] #[] ∧ ρ' 15 = .slice a1 l.length c1 ∧ ρ' 16 = vi l.length ∧ ρ' 17 = vi k ∧ L' = [F, sl 154 1 (.slice a1 l.length c1) l.length css.flatten, sl 154 1 (.slice a2 m.length c2) m.length dss.flatten] ∧ l.take k = m.take k)
   l.length ⟨0, rfl, by omega, rfl, rfl, rfl, rfl, rfl, rfl, rfl, rfl⟩ ?_
  rintro q ρ' I0 L' ⟨k, rfl, hk, rfl, h1, h2, h15, h16, h17, rfl, heq⟩
  refine ju5 h17 h16 h15 h2 h1 ?_
  by_cases hkn : k < l.length
  ·have hkm : k < m.length := by omega
   obtain ⟨g1, rfl⟩ := hg1 (by omega)
   obtain ⟨g2, rfl⟩ := hg2 (by omega)
   obtain ⟨x1, y1, hx, hel1⟩ := step_at hall k hkn
   obtain ⟨x2, y2, hy, hel2⟩ := step_at hall2 k hkm
   have htk := take_more heq hkn hkm
   generalize hx0 : l[k] = x at *
   generalize hy0 : m[k] = y at *
   refine jS (jy rfl rfl (jM (jB (jF (jV (jA (jB (WC.block (jS (ja rfl (jm (jZ rfl rfl) (jm (Val.loadS rfl (Rd.slN 1 rfl _ _ hel1)) ?_))))))))))))
   refine jf rfl (jh rfl (jN (jc rfl (ja rfl (jm (jZ rfl rfl) (jm (Val.loadS rfl (Rd.slN 2 rfl _ _ hel2)) ?_))))))
   refine jh rfl (jN (jm (Val.moveF rfl) (jc rfl (jc rfl ?_))))
   refine WL.callE rfl rfl (stepEq x y _ _ _ hx hy) rfl (fun h => ?_) (fun h => ?_)
   ·skip
    exact jl rfl (jM (jE (jV (WX.inNormal (jA (jD (jX rfl rfl (ja rfl (jC (WX.thenK (WK.round (l.length - (k + 1)) (by omega) ⟨k + 1, rfl, by omega, rfl, rfl, rfl, rfl, rfl, rfl, rfl, htk h⟩)))))))))))
   ·skip
    refine jl rfl (jM (jF (jS (jg rfl (jM (jR (WX.inRet (jU (jU (WX.inRet (jU ?_)))))))))))
    refine jP [0, 0] (jr1 rfl (jtB rfl)) ?_
    refine ⟨rfl, rfl, EqP.f fun e => ?_⟩
    subst e
    exact h (hx0.symm.trans hy0)
  ·skip
   refine jS (jx rfl rfl (jM (jB (jE (WC.exit (WX.thenExit (WX.thenExit (WX.inHit (jK (jg rfl (jM (jR ?_))))))))))))
   refine jP [0, 0] (jr1 rfl (jtB rfl)) ?_
   refine ⟨rfl, rfl, EqP.t ?_⟩
   have : k = l.length := by omega
   rw [this, List.take_length, hne, List.take_length] at heq
   exact heq
 ·skip
  refine jS (jg rfl (jM (jB (jS (jc rfl (jm (jo rfl) (jc rfl (jm (jo rfl) (jJ rfl rfl (jM (jF (jS (jg rfl (jM (jR (jU ?_))))))))))))))))
  exact jP [0, 0] (jr1 rfl (jtB rfl)) ⟨rfl, rfl, EqP.f fun h => hne (by rw [h])⟩
theorem stackEq (l m : List (List Cm)) (v u : Value) (p q : HP) (I : Mem) (hp : OwnL Step.rep 154 1 I l v p) (hq : OwnL Step.rep 154 1 I m u q) (hlb : l.length ≤ 100000) :
  Ctr Tryz.prog 92 [v, u] I [p, q] (KeepR [p, q] fun v _ => EqP (l = m) v) := by
 refine Ctr.intro Tryz.func92 rfl rfl rfl fun E F => ?_
 refine WC.ownOpen 1 rfl hp fun a1 c1 hs1 hg1 _ => ?_
 cases hs1
 refine WC.ownOpen 2 rfl hq fun a2 c2 hs2 hg2 _ => ?_
 cases hs2
 refine jS (jg rfl (jN (jc rfl (jc rfl (WL.callK [1, 1] rfl rfl rfl (stepsEqF _ _ _ _ _ _ _ hp hq hlb) rfl ?_)))))
 rintro _ ⟨b, rfl, hb⟩
 refine jg rfl (jM (jR ?_))
 exact jP [0, 0] (jr1 rfl (jtB rfl)) ⟨rfl, b, rfl, hb⟩
def OneH (b1 b2 : Nat) (d1 d2 : Dr) (us1 us2 rs1 rs2 : List (List Cm)) : Prop := b1 = b2 ∧ d1.entries = d2.entries ∧ us1 = us2 ∧ rs1 = rs2
theorem hEqual (H1 H2 : Hm) (d1 d2 : Dr) (us1 us2 rs1 rs2 : List (List Cm)) (ws1 ws2 ns1 ns2 : List Dr) (I : Mem) (h1 : HAbs I H1 d1 us1 rs1 ws1 ns1) (h2 : HAbs I H2 d2 us2 rs2 ws2 ns2) :
  Ctr Tryz.prog 52 [ptr H1.b, ptr H2.b] I (Hm.hp H1 ++ Hm.hp H2) (KeepR (Hm.hp H1 ++ Hm.hp H2) fun v _ => EqP (OneH H1.bnd H2.bnd d1 d2 us1 us2 rs1 rs2) v) := by
 obtain ⟨b1, D1, n1, uv1, rv1, up1, rp1⟩ := H1
 obtain ⟨b2, D2, n2, uv2, rv2, up2, rp2⟩ := H2
 have hul := h1.ul
 have hrl := h1.rl
 have hbl := h1.b2
 simp only at hul hrl hbl
 refine Ctr.intro Tryz.func52 rfl rfl rfl fun E F => ?_
 change WC _ _ _ _ [F, box b1 153 [ptr D1.b, vi n1, uv1, rv1], up1, rp1, docBox D1.b D1.A.b D1.mb D1.segs, mp D1.mb D1.f D1.cnt, _, _, _, _, _, box b2 153 [ptr D2.b, vi n2, uv2, rv2], up2, rp2, docBox D2.b D2.A.b D2.mb D2.segs, mp D2.mb D2.f D2.cnt, _, _, _, _, _] _
 refine WC.ownOpen 2 rfl h1.u fun a1 c1 hs _ _ => ?_
 cases hs
 refine WC.ownOpen 3 rfl h1.r fun a2 c2 hs _ _ => ?_
 cases hs
 refine WC.ownOpen 12 rfl h2.u fun a3 c3 hs _ _ => ?_
 cases hs
 refine WC.ownOpen 13 rfl h2.r fun a4 c4 hs _ _ => ?_
 cases hs
 by_cases hb : n1 = n2
 case neg =>
  have hbi : ¬ ((n1 : Int) = (n2 : Int)) := by omega
  refine jS (jg rfl (jM (jB (WC.drawK 999 I [1, 10] rfl (by kernel_rfl) rfl rfl ?_))))
  refine WA.take 0 rfl (by kernel_rfl) rfl (fun w h => (h.sub [1, 10] rfl)) (Val.moveP rfl) rfl ?_
  refine WA.take 1 rfl (by kernel_rfl) rfl (fun w h => (h.sub [1, 10] rfl)) (Val.nilCheckP rfl) rfl ?_
  refine WA.take 2 rfl (by kernel_rfl) rfl (fun w h => (h.sub [1, 10] rfl)) (Val.fldAddr rfl) rfl ?_
  refine WA.take 3 rfl (by kernel_rfl) rfl (fun w h => (h.sub [1, 10] rfl)) (Val.loadS rfl (Rd.own1 0 rfl rfl)) rfl ?_
  refine WA.take 4 rfl (by kernel_rfl) rfl (fun w h => (h.sub [1, 10] rfl)) (Val.moveP rfl) rfl ?_
  refine WA.take 5 rfl (by kernel_rfl) rfl (fun w h => (h.sub [1, 10] rfl)) (Val.nilCheckP rfl) rfl ?_
  refine WA.take 6 rfl (by kernel_rfl) rfl (fun w h => (h.sub [1, 10] rfl)) (Val.fldAddr rfl) rfl ?_
  refine WA.take 7 rfl (by kernel_rfl) rfl (fun w h => (h.sub [1, 10] rfl)) (Val.loadS rfl (Rd.own1 1 rfl rfl)) rfl ?_
  refine WA.take 8 rfl (by kernel_rfl) rfl (fun w h => (h.sub [1, 10] rfl)) (Val.eql rfl rfl (beq_eq_false_iff_ne.2 (by omega))) rfl ?_
  refine WA.take 9 rfl (by kernel_rfl) rfl (fun w h => (h.sub [1, 10] rfl)) (Val.moveB rfl) rfl ?_
  refine WA.takeGF 10 rfl (by kernel_rfl) rfl (fun w h => (h.sub [1, 10] rfl)) rfl rfl rfl rfl ?_
  refine WA.takeGF 11 rfl (by kernel_rfl) rfl (fun w h => (h.sub [1, 10] rfl)) rfl rfl rfl rfl ?_
  refine WA.takeGF 12 rfl (by kernel_rfl) rfl (fun w h => (h.sub [1, 10] rfl)) rfl rfl rfl rfl ?_
  refine WA.takeGF 13 rfl (by kernel_rfl) rfl (fun w h => (h.sub [1, 10] rfl)) rfl rfl rfl rfl ?_
  refine WA.takeGF 14 rfl (by kernel_rfl) rfl (fun w h => (h.sub [1, 10] rfl)) rfl rfl rfl rfl ?_
  refine WA.takeGF 15 rfl (by kernel_rfl) rfl (fun w h => (h.sub [1, 10] rfl)) rfl rfl rfl rfl ?_
  refine WA.takeGF 16 rfl (by kernel_rfl) rfl (fun w h => (h.sub [1, 10] rfl)) rfl rfl rfl rfl ?_
  refine WA.takeGF 17 rfl (by kernel_rfl) rfl (fun w h => (h.sub [1, 10] rfl)) rfl rfl rfl rfl ?_
  refine WA.takeGF 18 rfl (by kernel_rfl) rfl (fun w h => (h.sub [1, 10] rfl)) rfl rfl rfl rfl ?_
  refine WA.take 19 rfl (by kernel_rfl) rfl (fun w h => (h.sub [1, 10] rfl)) (Val.pick rfl) rfl ?_
  refine WA.take 20 rfl (by kernel_rfl) rfl (fun w h => (h.sub [1, 10] rfl)) (Val.moveB rfl) rfl ?_
  refine WA.takeGF 21 rfl (by kernel_rfl) rfl (fun w h => (h.sub [1, 10] rfl)) rfl rfl rfl rfl ?_
  refine WA.takeGF 22 rfl (by kernel_rfl) rfl (fun w h => (h.sub [1, 10] rfl)) rfl rfl rfl rfl ?_
  refine WA.takeGF 23 rfl (by kernel_rfl) rfl (fun w h => (h.sub [1, 10] rfl)) rfl rfl rfl rfl ?_
  refine WA.takeGF 24 rfl (by kernel_rfl) rfl (fun w h => (h.sub [1, 10] rfl)) rfl rfl rfl rfl ?_
  refine WA.takeGF 25 rfl (by kernel_rfl) rfl (fun w h => (h.sub [1, 10] rfl)) rfl rfl rfl rfl ?_
  refine WA.takeGF 26 rfl (by kernel_rfl) rfl (fun w h => (h.sub [1, 10] rfl)) rfl rfl rfl rfl ?_
  refine WA.takeGF 27 rfl (by kernel_rfl) rfl (fun w h => (h.sub [1, 10] rfl)) rfl rfl rfl rfl ?_
  refine WA.takeGF 28 rfl (by kernel_rfl) rfl (fun w h => (h.sub [1, 10] rfl)) rfl rfl rfl rfl ?_
  refine WA.takeGF 29 rfl (by kernel_rfl) rfl (fun w h => (h.sub [1, 10] rfl)) rfl rfl rfl rfl ?_
  refine WA.take 30 rfl (by kernel_rfl) rfl (fun w h => (h.sub [1, 10] rfl)) (Val.pick rfl) rfl ?_
  refine WA.take 31 rfl (by kernel_rfl) rfl (fun w h => (h.sub [1, 10] rfl)) (Val.moveB rfl) rfl ?_
  refine WA.takeGF 32 rfl (by kernel_rfl) rfl (fun w h => (h.sub [1, 10] rfl)) rfl rfl rfl rfl ?_
  refine WA.takeGF 33 rfl (by kernel_rfl) rfl (fun w h => (h.sub [1, 10] rfl)) rfl rfl rfl rfl ?_
  refine WA.takeGF 34 rfl (by kernel_rfl) rfl (fun w h => (h.sub [1, 10] rfl)) rfl rfl rfl rfl ?_
  refine WA.takeGF 35 rfl (by kernel_rfl) rfl (fun w h => (h.sub [1, 10] rfl)) rfl rfl rfl rfl ?_
  refine WA.takeGF 36 rfl (by kernel_rfl) rfl (fun w h => (h.sub [1, 10] rfl)) rfl rfl rfl rfl ?_
  refine WA.takeGF 37 rfl (by kernel_rfl) rfl (fun w h => (h.sub [1, 10] rfl)) rfl rfl rfl rfl ?_
  refine WA.takeGF 38 rfl (by kernel_rfl) rfl (fun w h => (h.sub [1, 10] rfl)) rfl rfl rfl rfl ?_
  refine WA.takeGF 39 rfl (by kernel_rfl) rfl (fun w h => (h.sub [1, 10] rfl)) rfl rfl rfl rfl ?_
  refine WA.takeGF 40 rfl (by kernel_rfl) rfl (fun w h => (h.sub [1, 10] rfl)) rfl rfl rfl rfl ?_
  refine WA.take 41 rfl (by kernel_rfl) rfl (fun w h => (h.sub [1, 10] rfl)) (Val.pick rfl) rfl ?_
  refine WA.take 42 rfl (by kernel_rfl) rfl (fun w h => (h.sub [1, 10] rfl)) (Val.assignB rfl) rfl ?_
  refine WA.done (by kernel_rfl) ?_
  refine jA (jR ?_)
  exact jP [0, 0, 0, 0, 0, 0, 0, 0, 0, 0, 0, 0, 0, 0, 0, 0, 0, 0, 0, 0] (jr1 rfl (jtB rfl)) ⟨rfl, EqP.f fun e => hb e.1⟩
 subst hb
 refine jS (jg rfl (jM (jB (WC.drawK 999 I [1, 10] rfl (by kernel_rfl) rfl rfl ?_))))
 refine WA.take 0 rfl (by kernel_rfl) rfl (fun w h => (h.sub [1, 10] rfl)) (Val.moveP rfl) rfl ?_
 refine WA.take 1 rfl (by kernel_rfl) rfl (fun w h => (h.sub [1, 10] rfl)) (Val.nilCheckP rfl) rfl ?_
 refine WA.take 2 rfl (by kernel_rfl) rfl (fun w h => (h.sub [1, 10] rfl)) (Val.fldAddr rfl) rfl ?_
 refine WA.take 3 rfl (by kernel_rfl) rfl (fun w h => (h.sub [1, 10] rfl)) (Val.loadS rfl (Rd.own1 0 rfl rfl)) rfl ?_
 refine WA.take 4 rfl (by kernel_rfl) rfl (fun w h => (h.sub [1, 10] rfl)) (Val.moveP rfl) rfl ?_
 refine WA.take 5 rfl (by kernel_rfl) rfl (fun w h => (h.sub [1, 10] rfl)) (Val.nilCheckP rfl) rfl ?_
 refine WA.take 6 rfl (by kernel_rfl) rfl (fun w h => (h.sub [1, 10] rfl)) (Val.fldAddr rfl) rfl ?_
 refine WA.take 7 rfl (by kernel_rfl) rfl (fun w h => (h.sub [1, 10] rfl)) (Val.loadS rfl (Rd.own1 1 rfl rfl)) rfl ?_
 refine WA.take 8 rfl (by kernel_rfl) rfl (fun w h => (h.sub [1, 10] rfl)) (Val.eql rfl rfl (beq_iff_eq.2 (by omega))) rfl ?_
 refine WA.take 9 rfl (by kernel_rfl) rfl (fun w h => (h.sub [1, 10] rfl)) (Val.moveB rfl) rfl ?_
 refine WA.takeGT 10 rfl (by kernel_rfl) rfl (fun w h => (h.sub [1, 10] rfl)) rfl rfl (Val.moveP rfl) rfl ?_
 refine WA.takeGT 11 rfl (by kernel_rfl) rfl (fun w h => (h.sub [1, 10] rfl)) rfl rfl (Val.nilCheckP rfl) rfl ?_
 refine WA.takeGT 12 rfl (by kernel_rfl) rfl (fun w h => (h.sub [1, 10] rfl)) rfl rfl (Val.fldAddr rfl) rfl ?_
 refine WA.takeGT 13 rfl (by kernel_rfl) rfl (fun w h => (h.sub [1, 10] rfl)) rfl rfl (Val.loadS rfl (Rd.own1 0 rfl rfl)) rfl ?_
 refine WA.takeGT 14 rfl (by kernel_rfl) rfl (fun w h => (h.sub [1, 10] rfl)) rfl rfl (Val.moveP rfl) rfl ?_
 refine WA.takeGT 15 rfl (by kernel_rfl) rfl (fun w h => (h.sub [1, 10] rfl)) rfl rfl (Val.nilCheckP rfl) rfl ?_
 refine WA.takeGT 16 rfl (by kernel_rfl) rfl (fun w h => (h.sub [1, 10] rfl)) rfl rfl (Val.fldAddr rfl) rfl ?_
 refine WA.takeGT 17 rfl (by kernel_rfl) rfl (fun w h => (h.sub [1, 10] rfl)) rfl rfl (Val.loadS rfl (Rd.own1 1 rfl rfl)) rfl ?_
 refine WA.eff1 (i := 18) (by kernel_rfl) rfl rfl ?_
 refine jG ?_
 refine WL.callEK [4, 4, 4, 4, 4, 4, 4, 7, 7, 7, 7, 7, 7, 7] rfl rfl rfl (dEqual D1 D2 d1 d2 _ h1.dab h2.dab) rfl (fun I2 hI2 he => ?_) (fun I2 hI2 he => ?_)
 case refine_2 =>
  refine jC (WK.anyStep (fun w h => (h.sub [1, 10] rfl).less (hI2)) ?_)
  refine WA.take 19 rfl (by kernel_rfl) rfl (fun w h => (h.sub [1, 10] rfl).less (hI2)) (Val.pick rfl) rfl ?_
  refine WA.take 20 rfl (by kernel_rfl) rfl (fun w h => (h.sub [1, 10] rfl).less (hI2)) (Val.moveB rfl) rfl ?_
  refine WA.takeGF 21 rfl (by kernel_rfl) rfl (fun w h => (h.sub [1, 10] rfl).less (hI2)) rfl rfl rfl rfl ?_
  refine WA.takeGF 22 rfl (by kernel_rfl) rfl (fun w h => (h.sub [1, 10] rfl).less (hI2)) rfl rfl rfl rfl ?_
  refine WA.takeGF 23 rfl (by kernel_rfl) rfl (fun w h => (h.sub [1, 10] rfl).less (hI2)) rfl rfl rfl rfl ?_
  refine WA.takeGF 24 rfl (by kernel_rfl) rfl (fun w h => (h.sub [1, 10] rfl).less (hI2)) rfl rfl rfl rfl ?_
  refine WA.takeGF 25 rfl (by kernel_rfl) rfl (fun w h => (h.sub [1, 10] rfl).less (hI2)) rfl rfl rfl rfl ?_
  refine WA.takeGF 26 rfl (by kernel_rfl) rfl (fun w h => (h.sub [1, 10] rfl).less (hI2)) rfl rfl rfl rfl ?_
  refine WA.takeGF 27 rfl (by kernel_rfl) rfl (fun w h => (h.sub [1, 10] rfl).less (hI2)) rfl rfl rfl rfl ?_
  refine WA.takeGF 28 rfl (by kernel_rfl) rfl (fun w h => (h.sub [1, 10] rfl).less (hI2)) rfl rfl rfl rfl ?_
  refine WA.takeGF 29 rfl (by kernel_rfl) rfl (fun w h => (h.sub [1, 10] rfl).less (hI2)) rfl rfl rfl rfl ?_
  refine WA.take 30 rfl (by kernel_rfl) rfl (fun w h => (h.sub [1, 10] rfl).less (hI2)) (Val.pick rfl) rfl ?_
  refine WA.take 31 rfl (by kernel_rfl) rfl (fun w h => (h.sub [1, 10] rfl).less (hI2)) (Val.moveB rfl) rfl ?_
  refine WA.takeGF 32 rfl (by kernel_rfl) rfl (fun w h => (h.sub [1, 10] rfl).less (hI2)) rfl rfl rfl rfl ?_
  refine WA.takeGF 33 rfl (by kernel_rfl) rfl (fun w h => (h.sub [1, 10] rfl).less (hI2)) rfl rfl rfl rfl ?_
  refine WA.takeGF 34 rfl (by kernel_rfl) rfl (fun w h => (h.sub [1, 10] rfl).less (hI2)) rfl rfl rfl rfl ?_
  refine WA.takeGF 35 rfl (by kernel_rfl) rfl (fun w h => (h.sub [1, 10] rfl).less (hI2)) rfl rfl rfl rfl ?_
  refine WA.takeGF 36 rfl (by kernel_rfl) rfl (fun w h => (h.sub [1, 10] rfl).less (hI2)) rfl rfl rfl rfl ?_
  refine WA.takeGF 37 rfl (by kernel_rfl) rfl (fun w h => (h.sub [1, 10] rfl).less (hI2)) rfl rfl rfl rfl ?_
  refine WA.takeGF 38 rfl (by kernel_rfl) rfl (fun w h => (h.sub [1, 10] rfl).less (hI2)) rfl rfl rfl rfl ?_
  refine WA.takeGF 39 rfl (by kernel_rfl) rfl (fun w h => (h.sub [1, 10] rfl).less (hI2)) rfl rfl rfl rfl ?_
  refine WA.takeGF 40 rfl (by kernel_rfl) rfl (fun w h => (h.sub [1, 10] rfl).less (hI2)) rfl rfl rfl rfl ?_
  refine WA.take 41 rfl (by kernel_rfl) rfl (fun w h => (h.sub [1, 10] rfl).less (hI2)) (Val.pick rfl) rfl ?_
  refine WA.take 42 rfl (by kernel_rfl) rfl (fun w h => (h.sub [1, 10] rfl).less (hI2)) (Val.assignB rfl) rfl ?_
  refine WA.done (by kernel_rfl) ?_
  refine jA (jR ?_)
  exact jP [0, 0, 0, 0, 0, 0, 0, 0, 0, 0, 0, 0, 0, 0, 0, 0, 0, 0, 0, 0] (jr1 rfl (jtB rfl)) ⟨rfl, EqP.f fun e => he e.2.1⟩
 refine jC (WK.anyStep (fun w h => (h.sub [1, 10] rfl).less (hI2)) ?_)
 refine WA.take 19 rfl (by kernel_rfl) rfl (fun w h => (h.sub [1, 10] rfl).less (hI2)) (Val.pick rfl) rfl ?_
 refine WA.take 20 rfl (by kernel_rfl) rfl (fun w h => (h.sub [1, 10] rfl).less (hI2)) (Val.moveB rfl) rfl ?_
 refine WA.takeGT 21 rfl (by kernel_rfl) rfl (fun w h => (h.sub [1, 10] rfl).less (hI2)) rfl rfl (Val.moveP rfl) rfl ?_
 refine WA.takeGT 22 rfl (by kernel_rfl) rfl (fun w h => (h.sub [1, 10] rfl).less (hI2)) rfl rfl (Val.nilCheckP rfl) rfl ?_
 refine WA.takeGT 23 rfl (by kernel_rfl) rfl (fun w h => (h.sub [1, 10] rfl).less (hI2)) rfl rfl (Val.fldAddr rfl) rfl ?_
 refine WA.takeGT 24 rfl (by kernel_rfl) rfl (fun w h => (h.sub [1, 10] rfl).less (hI2)) rfl rfl (Val.loadS rfl (Rd.own1 0 rfl rfl)) rfl ?_
 refine WA.takeGT 25 rfl (by kernel_rfl) rfl (fun w h => (h.sub [1, 10] rfl).less (hI2)) rfl rfl (Val.moveP rfl) rfl ?_
 refine WA.takeGT 26 rfl (by kernel_rfl) rfl (fun w h => (h.sub [1, 10] rfl).less (hI2)) rfl rfl (Val.nilCheckP rfl) rfl ?_
 refine WA.takeGT 27 rfl (by kernel_rfl) rfl (fun w h => (h.sub [1, 10] rfl).less (hI2)) rfl rfl (Val.fldAddr rfl) rfl ?_
 refine WA.takeGT 28 rfl (by kernel_rfl) rfl (fun w h => (h.sub [1, 10] rfl).less (hI2)) rfl rfl (Val.loadS rfl (Rd.own1 1 rfl rfl)) rfl ?_
 refine WA.eff1 (i := 29) (by kernel_rfl) rfl rfl ?_
 refine jG ?_
 refine WL.callEK [2, 11] rfl rfl rfl (stackEq us1 us2 _ _ _ _ _ (h1.u.mono hI2) (h2.u.mono hI2) (by omega)) rfl (fun I3 hI3 hu => ?_) (fun I3 hI3 hu => ?_)
 case refine_2 =>
  have hJ := hI2.trans hI3
  refine jC (WK.anyStep (fun w h => (h.sub [1, 10] rfl).less (hJ)) ?_)
  refine WA.take 30 rfl (by kernel_rfl) rfl (fun w h => (h.sub [1, 10] rfl).less (hJ)) (Val.pick rfl) rfl ?_
  refine WA.take 31 rfl (by kernel_rfl) rfl (fun w h => (h.sub [1, 10] rfl).less (hJ)) (Val.moveB rfl) rfl ?_
  refine WA.takeGF 32 rfl (by kernel_rfl) rfl (fun w h => (h.sub [1, 10] rfl).less (hJ)) rfl rfl rfl rfl ?_
  refine WA.takeGF 33 rfl (by kernel_rfl) rfl (fun w h => (h.sub [1, 10] rfl).less (hJ)) rfl rfl rfl rfl ?_
  refine WA.takeGF 34 rfl (by kernel_rfl) rfl (fun w h => (h.sub [1, 10] rfl).less (hJ)) rfl rfl rfl rfl ?_
  refine WA.takeGF 35 rfl (by kernel_rfl) rfl (fun w h => (h.sub [1, 10] rfl).less (hJ)) rfl rfl rfl rfl ?_
  refine WA.takeGF 36 rfl (by kernel_rfl) rfl (fun w h => (h.sub [1, 10] rfl).less (hJ)) rfl rfl rfl rfl ?_
  refine WA.takeGF 37 rfl (by kernel_rfl) rfl (fun w h => (h.sub [1, 10] rfl).less (hJ)) rfl rfl rfl rfl ?_
  refine WA.takeGF 38 rfl (by kernel_rfl) rfl (fun w h => (h.sub [1, 10] rfl).less (hJ)) rfl rfl rfl rfl ?_
  refine WA.takeGF 39 rfl (by kernel_rfl) rfl (fun w h => (h.sub [1, 10] rfl).less (hJ)) rfl rfl rfl rfl ?_
  refine WA.takeGF 40 rfl (by kernel_rfl) rfl (fun w h => (h.sub [1, 10] rfl).less (hJ)) rfl rfl rfl rfl ?_
  refine WA.take 41 rfl (by kernel_rfl) rfl (fun w h => (h.sub [1, 10] rfl).less (hJ)) (Val.pick rfl) rfl ?_
  refine WA.take 42 rfl (by kernel_rfl) rfl (fun w h => (h.sub [1, 10] rfl).less (hJ)) (Val.assignB rfl) rfl ?_
  refine WA.done (by kernel_rfl) ?_
  refine jA (jR ?_)
  exact jP [0, 0, 0, 0, 0, 0, 0, 0, 0, 0, 0, 0, 0, 0, 0, 0, 0, 0, 0, 0] (jr1 rfl (jtB rfl)) ⟨rfl, EqP.f fun e => hu e.2.2.1⟩
 have hJ := hI2.trans hI3
 refine jC (WK.anyStep (fun w h => (h.sub [1, 10] rfl).less (hJ)) ?_)
 refine WA.take 30 rfl (by kernel_rfl) rfl (fun w h => (h.sub [1, 10] rfl).less (hJ)) (Val.pick rfl) rfl ?_
 refine WA.take 31 rfl (by kernel_rfl) rfl (fun w h => (h.sub [1, 10] rfl).less (hJ)) (Val.moveB rfl) rfl ?_
 refine WA.takeGT 32 rfl (by kernel_rfl) rfl (fun w h => (h.sub [1, 10] rfl).less (hJ)) rfl rfl (Val.moveP rfl) rfl ?_
 refine WA.takeGT 33 rfl (by kernel_rfl) rfl (fun w h => (h.sub [1, 10] rfl).less (hJ)) rfl rfl (Val.nilCheckP rfl) rfl ?_
 refine WA.takeGT 34 rfl (by kernel_rfl) rfl (fun w h => (h.sub [1, 10] rfl).less (hJ)) rfl rfl (Val.fldAddr rfl) rfl ?_
 refine WA.takeGT 35 rfl (by kernel_rfl) rfl (fun w h => (h.sub [1, 10] rfl).less (hJ)) rfl rfl (Val.loadS rfl (Rd.own1 0 rfl rfl)) rfl ?_
 refine WA.takeGT 36 rfl (by kernel_rfl) rfl (fun w h => (h.sub [1, 10] rfl).less (hJ)) rfl rfl (Val.moveP rfl) rfl ?_
 refine WA.takeGT 37 rfl (by kernel_rfl) rfl (fun w h => (h.sub [1, 10] rfl).less (hJ)) rfl rfl (Val.nilCheckP rfl) rfl ?_
 refine WA.takeGT 38 rfl (by kernel_rfl) rfl (fun w h => (h.sub [1, 10] rfl).less (hJ)) rfl rfl (Val.fldAddr rfl) rfl ?_
 refine WA.takeGT 39 rfl (by kernel_rfl) rfl (fun w h => (h.sub [1, 10] rfl).less (hJ)) rfl rfl (Val.loadS rfl (Rd.own1 1 rfl rfl)) rfl ?_
 refine WA.eff1 (i := 40) (by kernel_rfl) rfl rfl ?_
 refine jG ?_
 refine WL.callEK [3, 12] rfl rfl rfl (stackEq rs1 rs2 _ _ _ _ _ (h1.r.mono hJ) (h2.r.mono hJ) (by omega)) rfl (fun I4 hI4 hr => ?_) (fun I4 hI4 hr => ?_)
 ·have hK := hJ.trans hI4
  refine jC (WK.anyStep (fun w h => (h.sub [1, 10] rfl).less (hK)) ?_)
  refine WA.take 41 rfl (by kernel_rfl) rfl (fun w h => (h.sub [1, 10] rfl).less (hK)) (Val.pick rfl) rfl ?_
  refine WA.take 42 rfl (by kernel_rfl) rfl (fun w h => (h.sub [1, 10] rfl).less (hK)) (Val.assignB rfl) rfl ?_
  refine WA.done (by kernel_rfl) ?_
  refine jA (jR ?_)
  exact jP [0, 0, 0, 0, 0, 0, 0, 0, 0, 0, 0, 0, 0, 0, 0, 0, 0, 0, 0, 0] (jr1 rfl (jtB rfl)) ⟨rfl, EqP.t ⟨rfl, he, hu, hr⟩⟩
 ·have hK := hJ.trans hI4
  refine jC (WK.anyStep (fun w h => (h.sub [1, 10] rfl).less (hK)) ?_)
  refine WA.take 41 rfl (by kernel_rfl) rfl (fun w h => (h.sub [1, 10] rfl).less (hK)) (Val.pick rfl) rfl ?_
  refine WA.take 42 rfl (by kernel_rfl) rfl (fun w h => (h.sub [1, 10] rfl).less (hK)) (Val.assignB rfl) rfl ?_
  refine WA.done (by kernel_rfl) ?_
  refine jA (jR ?_)
  exact jP [0, 0, 0, 0, 0, 0, 0, 0, 0, 0, 0, 0, 0, 0, 0, 0, 0, 0, 0, 0] (jr1 rfl (jtB rfl)) ⟨rfl, EqP.f fun e => hr e.2.2.2⟩
end Go.Proofs.YtggcpoleklcmkaaGreatDoor

namespace Go.Sl
theorem Sat.swap2 {E : Ev} {w : World} {I : Mem} {F : HP} {A B : List HP} (h : Sat E w I (F :: (A ++ B))) : Sat E w I (F :: (B ++ A)) := h.perm (List.Perm.cons F List.perm_append_comm)
theorem Sat.swap4 {E : Ev} {w : World} {I : Mem} {F : HP} {A B C D : List HP} (h : Sat E w I (F :: (A ++ (B ++ (C ++ D))))) : Sat E w I (F :: (B ++ (D ++ (A ++ C)))) := h.perm (List.Perm.cons F (by
 refine (List.perm_append_comm_assoc A B _).trans (List.Perm.append_left B ?_)
 rw [← List.append_assoc]
 exact List.perm_append_comm))
theorem picks_tail {α : Type} (F : α) : ∀ A : List α, picks (List.replicate A.length 1) (F :: A) = some (A, [F])
 | [] => rfl
 | a :: A => by
  show (match picks (List.replicate A.length 1) (F :: A) with | none => none | some (xs, r) => some (a :: xs, r)) = _
  rw [picks_tail F A]
theorem Sat.tail2 {E : Ev} {w : World} {I : Mem} {F : HP} {A B : List HP} (h : Sat E w I (F :: (A ++ B))) : Sat E w I (F :: B) :=
 ((h.swap2.imp fun m hm => by
  obtain ⟨m1, m2, h1, h2, h3, h4, h5⟩ := sts_append (l := F :: B) hm
  exact sts_mono h4 h1))
end Go.Sl
namespace Go.Proofs.YtggcpoleklcmkaaGreatDoor
open Go.Sl Go.Ls Go.Tr Go.Dc Go.Hi
attribute [local irreducible] WC WL WX WK WA WAK Val Ctr RunRes ResIs Rd At sl box pt Exit.then Exit.inBlock bodyPost Code.wp wpList
theorem hAll (l : List Ac) (v : Value) (a : Ac) (av : Value) (I : Mem) (hN : NeedAt I) (hv : LsAt Ac.rep I l v) (hav : I64 a.kind ∧ LsAt Cm.rep I a.cms av) : Ctr Tryz.prog 13 [v, .agg #[vi a.kind, av]] I [] (KeepR [] fun v _ => v = .bool true) := by
 have hv0 := hv
 obtain ⟨a1, c1, rfl⟩ := hv.sl
 obtain ⟨hki, hac⟩ := hav
 have hac0 := hac
 obtain ⟨a2, c2, rfl⟩ := hac.sl
 refine Ctr.intro Tryz.func13 rfl rfl rfl fun E F => ?_
 refine jS (WL.boxA rfl rfl (fun _ => ?_))
 refine jW ?_
 refine jg rfl (jN (jc rfl ?_))
 rename_i g
 refine WL.callP [] rfl rfl (hRun 100 l _ _ hN ⟨by omega, by omega⟩ hv0) rfl ?_
 rintro _ I1 _ hI1 (⟨rfl, rfl⟩ | ⟨H0, d0, us0, rs0, ws0, ns0, rfl, hb0, rfl, hH0, hP0, hs0⟩)
 ·refine WL.nApp ?_
  refine ji rfl (jM (jB (jS (jd rfl (jm (Val.eqlNilP rfl) ?_)))))
  refine jb rfl (jH (jH (jH (jH (jk rfl (jM (jF (jS (WL.callP [] rfl rfl (hAwake _ (hN.mono hI1)) rfl ?_)))))))))
  rintro _ I2 _ hI2 ⟨rfl, rfl⟩
  refine jW ?_
  refine jg rfl (jM (jR (jU ?_)))
  have hJ := hI1.trans hI2
  exact jP [] (jr1 rfl (jtB rfl)) ⟨rfl, rfl⟩
 change WL _ _ _ _ _ (_ ++ [_, _, _, _, _, _, _, _, _, _]) _
 refine jW ?_
 refine ji rfl (jM (jB (jS (jd rfl (jm (Val.eqlNilP rfl) ?_)))))
 refine jb rfl (jG (jm (jt 1 rfl rfl rfl) (jG (WL.buildSlice (by with_unfolding_all exact rfl) rfl (by with_unfolding_all exact rfl) rfl (fun _ => ?_)))))
 refine jW ?_
 refine jG ?_
 rename_i g2
 refine WL.boxSl (e := 108) (sz := 2) (n := 1) 12 rfl rfl (by decide) ?_
 refine WL.freezeL (R := Ac.rep) (l := [a]) 12 rfl ⟨[_], rfl, ⟨_, rfl, hki, hac0.mono hI1⟩, trivial⟩ fun I2 hI2 hva => ?_
 have hN2 := (hN.mono hI1).mono hI2
 refine WL.callE rfl rfl (smallActs [a] 1 _ _ hva) rfl (fun hs => ?_) (fun hs => ?_)
 case refine_2 =>
  refine jG (jl rfl (jk rfl (jM (jF (jS (WL.callP [] rfl rfl (hAwake _ hN2) rfl ?_))))))
  rintro _ I3 _ hI3 ⟨rfl, rfl⟩
  refine jW ?_
  refine jg rfl (jM (jR (jU ?_)))
  have hJ := hI1.trans (hI2.trans hI3)
  exact jP [] (jr1 rfl (jtB rfl)) ⟨rfl, rfl⟩
 have hsa := hs.1 a (by simp)
 have hl25 := hs0.2
 have hpl := hP0.len
 have hps := hP0.segs.d
 have hH02 := hH0.mono hI2
 refine jG (jl rfl (jk rfl (jM (jE (jV (jK (jd rfl (WL.callP [2, 2, 2, 2, 2, 2, 2, 2, 2, 2] rfl rfl (hCopy H0 _ _ _ _ _ _ hH02) rfl ?_))))))))
 rintro _ I3 _ _ ⟨rfl, H2, rfl, hbn2, rfl, hH2⟩
 change WL _ _ _ _ _ (_ ++ [_, _, _, _, _, _, _, _, _, _, _, _, _, _, _, _, _, _, _, _]) _
 refine jW ?_
 refine ji rfl (jM (jB (jS (jd rfl (jm (jn rfl) (jm (jp 1 rfl rfl rfl) (WL.callP [2, 2, 2, 2, 2, 2, 2, 2, 2, 2] rfl rfl (hDo H0 d0 a.cms _ us0 rs0 ws0 ns0 _ hN2 hH02 ((hac0.mono hI1).mono hI2) (fun h64 => fits20 hsa.2 (by omega))) rfl ?_)))))))
 rintro _ I4 _ hI4 ⟨H3, hb3, hbn3, rfl, rfl, hQ⟩
 refine WL.conv (fun w h => Sat.swap2 (A := Hm.hp H2) (B := Hm.hp H3) (Sat.tail2 (A := [box g 108 [vi a.kind, .slice a2 a.cms.length c2]]) h)) ?_
 change WL _ _ _ _ _ [F, _, _, _, _, _, _, _, _, _, _, _, _, _, _, _, _, _, _, _, _] _
 rw [← hb3]
 have hH24 := hH2.mono hI4
 have hN4 := hN2.mono hI4
 rcases hQ with ⟨he, hH3⟩ | ⟨he, d1, bs, hr, hH3⟩
 ·skip
  refine jJ rfl rfl (jM (jF (jS (jd rfl (jd rfl ?_)))))
  refine WL.callEK (List.replicate (Hm.hp H3 ++ Hm.hp H2).length 1) rfl rfl (picks_tail F (Hm.hp H3 ++ Hm.hp H2)) (hEqual H3 H2 _ _ _ _ _ _ _ _ _ _ _ hH3 hH24) rfl (fun I5 hI5 hq => ?_) (fun I5 hI5 hq => absurd ⟨hbn3.trans hbn2.symm, rfl, rfl, rfl⟩ hq)
  refine jb rfl (jG (jd rfl (jG (jd rfl (jG (WL.conv (fun w h => Sat.swap2 (A := Hm.hp H3) (B := Hm.hp H2) h) ?_))))))
  change WL _ _ _ _ _ [F, _, _, _, _, _, _, _, _, _, _, _, _, _, _, _, _, _, _, _, _] _
  refine WL.callEK (List.replicate (Hm.hp H2 ++ Hm.hp H3).length 1) rfl rfl (picks_tail F (Hm.hp H2 ++ Hm.hp H3)) (hEqual H2 H3 _ _ _ _ _ _ _ _ _ _ _ (hH24.mono hI5) (hH3.mono hI5)) rfl (fun I6 hI6 hq => ?_) (fun I6 hI6 hq => absurd ⟨hbn2.trans hbn3.symm, rfl, rfl, rfl⟩ hq)
  refine jk rfl (jb rfl (jG (WL.callP [] rfl rfl (hAwake _ ((hN4.mono hI5).mono hI6)) rfl ?_)))
  rintro _ I7 _ hI7 ⟨rfl, rfl⟩
  refine jW ?_
  refine jk rfl (jg rfl (jM (jR (jU ?_))))
  have hJ := hI1.trans (hI2.trans (hI4.trans (hI5.trans (hI6.trans hI7))))
  exact jP [] (jr1 rfl (jtB rfl)) ⟨rfl, rfl⟩
 rw [he]
 have hkw := hH0.cu.len
 rw [keep_all (l := us0 ++ [bs]) (by rw [List.length_append]; simp only [List.length_singleton]; omega), keep_all (l := ws0 ++ [d0]) (by rw [List.length_append]; simp only [List.length_singleton]; omega)] at hH3
 have hul3 : (us0 ++ [bs]).length = us0.length + 1 := by rw [List.length_append]; rfl
 refine jz rfl rfl (jM (jE (jV (jK (jd rfl (WL.callK [1, 1, 1, 1, 1, 1, 1, 1, 1, 1] rfl rfl rfl (hRedos H3 _ _ _ _ _ _ hH3) rfl ?_))))))
 rintro _ rfl
 refine jm (Val.eql rfl rfl rfl) ?_
 refine jb rfl (jG (jd rfl (jG (WL.callK [1, 1, 1, 1, 1, 1, 1, 1, 1, 1] rfl rfl rfl (hUndos H3 _ _ _ _ _ _ hH3) rfl ?_))))
 rintro _ rfl
 rw [hul3]
 refine jG (jd rfl (jG (WL.callK [11, 11, 11, 11, 11, 11, 11, 11, 11, 11] rfl rfl rfl (hUndos H2 _ _ _ _ _ _ hH24) rfl ?_)))
 rintro _ rfl
 refine jG (jX rfl rfl (jG (jw rfl rfl (jk rfl (jb rfl (jG (jd rfl (jG (WL.callP [1, 1, 1, 1, 1, 1, 1, 1, 1, 1] rfl rfl (hUndo H3 _ _ _ _ _ _ hN4 hH3) rfl ?_)))))))))
 rintro _ I5 _ hI5 (⟨h, _⟩ | ⟨H4, u1, s, w, w1, bs4, e1, e2, rfl, hb4, hbn4, rfl, hH4⟩)
 case inl => simp at h
 obtain ⟨q1, q2⟩ := List.append_inj' e1 rfl
 obtain ⟨q3, q4⟩ := List.append_inj' e2 rfl
 clear e1 e2
 cases q2
 cases q4
 subst q1
 subst q3
 rw [if_neg (by decide)] at hH4
 have hrl4 : (keep H3.bnd ([] ++ [bs4])).length = 1 := by rw [keep_len]; show min _ 1 = 1; omega
 rw [← hb4]
 refine WL.conv (fun w h => Sat.swap2 (A := Hm.hp H2) (B := Hm.hp H4) h) ?_
 change WL _ _ _ _ _ [F, _, _, _, _, _, _, _, _, _, _, _, _, _, _, _, _, _, _, _, _] _
 have hH25 := hH24.mono hI5
 refine jG (jw rfl rfl (jk rfl (jb rfl (jG (jd rfl (jG (WL.callP [1, 1, 1, 1, 1, 1, 1, 1, 1, 1] rfl rfl (hDoc H4 _ _ _ _ _ _ hH4) rfl ?_)))))))
 rintro _ I6 _ _ ⟨rfl, Da, rfl, rfl, hDa⟩
 change WL _ _ _ _ _ (_ ++ [_, _, _, _, _, _, _, _, _, _, _, _, _, _, _, _, _]) _
 refine jW ?_
 refine jG (jd rfl (jG (WL.callP [1, 1, 1, 1, 1, 1, 1, 1, 1, 1] rfl rfl (hDoc H2 _ _ _ _ _ _ hH25) rfl ?_)))
 rintro _ I7 _ _ ⟨rfl, Db, rfl, rfl, hDb⟩
 change WL _ _ _ _ _ (_ ++ [_, _, _, _, _, _, _, _, _, _, _, _, _, _, _, _, _]) _
 refine jW ?_
 refine jG (WL.conv (fun w h => Sat.swap4 (A := Hm.hp H4) (B := Da.hp) (C := Hm.hp H2) (D := Db.hp) h) ?_)
 change WL _ _ _ _ _ [F, _, _, _, _, _, _, _, _, _, _, _, _, _, _, _, _, _, _, _, _, _, _, _, _, _, _, _, _, _, _, _, _, _, _] _
 refine WL.callEK [1, 1, 1, 1, 1, 1, 1, 1, 1, 1, 1, 1, 1, 1] rfl rfl rfl (dEqual Da Db _ _ _ hDa hDb) rfl (fun I8 hI8 he => ?_) (fun I8 hI8 he => absurd rfl he)
 refine WL.conv (fun w h => Sat.tail2 (A := Da.hp ++ Db.hp) h) ?_
 change WL _ _ _ _ _ [F, _, _, _, _, _, _, _, _, _, _, _, _, _, _, _, _, _, _, _, _] _
 refine jk rfl (jb rfl (jG (jd rfl (jG (WL.callK [1, 1, 1, 1, 1, 1, 1, 1, 1, 1] rfl rfl rfl (hRedos H4 _ _ _ _ _ _ (hH4.mono hI8)) rfl ?_)))))
 rintro _ rfl
 rw [hrl4]
 refine jG (jw rfl rfl (jk rfl (jb rfl (jG (WL.callP [] rfl rfl (hAwake _ ((hN4.mono hI5).mono hI8)) rfl ?_)))))
 rintro _ I9 _ hI9 ⟨rfl, rfl⟩
 refine jW ?_
 refine jk rfl (jg rfl (jM (jR ?_)))
 have hJ := hI1.trans (hI2.trans (hI4.trans (hI5.trans (hI8.trans hI9))))
 exact jP [] (jr1 rfl (jtB rfl)) ⟨rfl, rfl⟩
open Go.ChangeShapes Go.WideShapes Go.ChangeAt Go.RowKit Go.Sl Go.Ls Go.Dc
theorem Tryz.own : ownKnob Tryz.prog.godebug = none := by kernel_rfl
theorem Tryz.laidOut : laidOutB Tryz.prog = true := by kernel_rfl
theorem gNeed : Tryz.prog.globalNamed "limner/path.needs" = some 0 := by kernel_rfl
theorem gNeedType : (Tryz.prog.globals[0]?).map (·.type) = some 163 := by kernel_rfl
theorem cellsN : Tryz.prog.cellsOf 163 = 6 := by kernel_rfl
theorem cells3 : Tryz.prog.cellsOf 3 = 1 := by kernel_rfl
theorem undN : Tryz.prog.underlying 163 = some (.array 6 3) := by kernel_rfl
theorem und3 : Tryz.prog.underlying 3 = some (.int .i64) := by kernel_rfl
theorem und4 : Tryz.prog.underlying 4 = some .bool := by kernel_rfl
theorem needAt {W : World} (h : laidMetH Tryz.prog Rows.docAttrsRow.laid W) : NeedAt (heapOf W) := by
 have ht : Lib.TabIs Tryz.prog W "limner/path.needs" .i64 [0, 1, 1, 2, 3, 0] := Lib.tabIs_of_head (rest := []) gNeed gNeedType undN und3 cells3 cellsN h
 refine At.of_cells (by decide) fun j v hj => ?_
 have hl : j < 6 := by
  rcases Nat.lt_or_ge j 6 with h | h
  ·exact h
  ·rw [List.getElem?_eq_none (by simpa using h)] at hj; cases hj
 have hj' : j = 0 ∨ j = 1 ∨ j = 2 ∨ j = 3 ∨ j = 4 ∨ j = 5 := by omega
 rcases hj' with rfl | rfl | rfl | rfl | rfl | rfl <;> (cases hj; exact ht.cell gNeed _ (by decide))
noncomputable def laidWorld (os : Os) : World :=
 { World.holding Tryz.prog os ⟨#[], #[], []⟩ with heap := (World.holding Tryz.prog os ⟨#[], #[], []⟩).heap.modify 0 fun
   | .cells _ t frozen => .cells #[.int .i64 0, .int .i64 1, .int .i64 1, .int .i64 2, .int .i64 3, .int .i64 0] t frozen
   | o => o }
def isSt (P : Program) (t : TypeId) : Bool := match P.underlying t with | some (.struct _) => true | _ => false
theorem agg_of_struct {P : Program} {W : World} {r : Reach} {base t : Nat} {v : Value} (h : Value.okWide P W r base t v) (hs : isSt P t = true) : ∃ cs, v = .agg cs := by
 unfold isSt at hs
 split at hs
 ·rename_i fs hu
  obtain ⟨cs, h, _⟩ := okWide_struct hu h
  exact ⟨cs, h⟩
 ·cases hs
theorem some_of {α : Type} {o : Option α} (h : o.isSome = true) : ∃ x, o = some x := by
 cases o with
 | none => cases h
 | some x => exact ⟨x, rfl⟩
open Go.ChangeShapes Go.WideShapes Go.ChangeAt Go.RowKit Go.Joins Go.Sl Go.Ls Go.Tr Go.Dc
theorem isStAct : isSt Tryz.prog 108 = true := by kernel_rfl
theorem historyAll_params : Tryz.f13.params = #[98, 108] := by kernel_rfl
theorem historyAll_contract (H : Type) (enc : TypeId × Value → H) (W : World) (base : Nat) (args : Array Value) (ds gs : List (DataW H)) (before : List MemPlace)
  (hval0 : ∀ (j : Nat) t v, Tryz.f13.params[j]? = some t → args[j]? = some v → Value.okWide Tryz.prog W .any base t v)
  (hW : DataW.Whole enc Tryz.prog Tryz.f13.params.toList Rows.historyAllSpec.vars false W args.toList ds gs before) (hL : laidMetH Tryz.prog Rows.historyAllRow.laid W) :
  Calls Tryz.prog 13 args W fun e W' => ∃ v, e = .returned v ∧ Rows.historyAllSpec.post enc Tryz.prog Tryz.f13 false true false false W args v W' := by
 have hval := hval0
 have hW' := hW
 obtain ⟨p, q, hA0, hV, rfl, hfz, hnd⟩ := hW
 have hA : DataW.TrodAll enc Tryz.prog W 0 (fun _ => true) true Tryz.f13.params.toList args.toList ds p := hA0
 rw [historyAll_params] at hA hval
 obtain ⟨v0, v1, d0, d1, p0, p1, rfl, rfl, rfl, h0, h1⟩ := trodAll_two hA
 obtain ⟨rfl, rfl⟩ := trodVars_none hV
 have hlt0 : ∀ x ∈ p0, x.block < W.heap.size := fun x hx => hW'.lt x (by simp [hx])
 have hlt1 : ∀ x ∈ p1, x.block < W.heap.size := fun x hx => hW'.lt x (by simp [hx])
 clear hA0 hval0
 simp only [List.append_nil] at hW'
 obtain ⟨a0, len0, cap0, rfl⟩ := okWide_slice (t := 98) slAct (hval 0 98 v0 rfl rfl)
 obtain ⟨x0, w0, e0, hx0⟩ := open_acts (TrodOk.of h0)
 cases e0
 obtain ⟨⟨cs1⟩, rfl⟩ := agg_of_struct (hval 1 108 v1 rfl rfl) isStAct
 obtain ⟨x1, w1, es1, hx1⟩ := open_act (TrodOk.of h1)
 replace es1 : cs1 = _ := es1
 subst es1
 have walk := hAll x0 _ x1 _ (heapOf W) (needAt hL) hx0 hx1
 refine (Ctr.calls walk).mono fun e W' ⟨v, I', L', he, hb, hR⟩ => ?_
 obtain ⟨_, rfl⟩ := hR
 subst he
 have h9 := trodAll_mk2 (Below.trod Tryz.laidOut (by kernel_rfl) (of_decide_eq_true (by kernel_rfl)) h0 hb hlt0) (Below.trod Tryz.laidOut (by kernel_rfl) (of_decide_eq_true (by kernel_rfl)) h1 hb hlt1)
 exact ⟨_, rfl, _, _, _, [], _, [], hW', trodAll_mk1 (shut_bool und4 true), h9, rfl, hb.frame _, fun h => by cases h⟩
theorem historyAll_laid (os : Os) : laidMet Tryz.prog Rows.historyAllRow.laid ((laidWorld os).forCall (fun _ _ => 0) ⟨#[], #[.slice none 0 0, .agg #[vi 0, .slice none 0 0]], []⟩).memory :=
 laidMet_of_run' 8 (by kernel_rfl) (by kernel_rfl)
set_option maxRecDepth 100000 in
theorem historyAll_lifted (os : Os) (started : os.Started) (H : Type) (enc : TypeId × Value → H) (F : Stop.Interp) :
  ReturnsInHanded {} Tryz.checked os 13 .any ((OpenSpec.ofChange Rows.historyAllSpec).preRow enc Tryz.prog Tryz.f13 Rows.historyAllRow.domain false Rows.historyAllRow.laid) (((OpenSpec.ofChange Rows.historyAllSpec).at F).post enc Tryz.prog Tryz.f13 false true false false) := by
 obtain ⟨x, hx⟩ := some_of (o := DataW.whole enc Tryz.prog ((laidWorld os).forCall (fun _ _ => 0) ⟨#[], #[.slice none 0 0, .agg #[vi 0, .slice none 0 0]], []⟩).memory Tryz.f13.params.toList Rows.historyAllSpec.vars false (#[.slice none 0 0, .agg #[vi 0, .slice none 0 0]] : Array Value).toList 8) (by kernel_rfl)
 refine returnsInHanded_of_row (C := Tryz.checked) (s := OpenSpec.ofChange Rows.historyAllSpec) Tryz.own started (by kernel_rfl) Tryz.func13
  (witness_row_at (enc := enc) (C := Tryz.checked) false (laidWorld os) #[.slice none 0 0, .agg #[vi 0, .slice none 0 0]] rfl (by kernel_rfl) (by kernel_rfl) (by kernel_rfl)
   (OpenSpec.preRow_of_cond 8 hx (by kernel_rfl) (fun k hk => by cases hk) (by kernel_rfl) (historyAll_laid os))) ?_
 intro W base args ds gs before hval hW _ _ _ hL _ _
 exact historyAll_contract H enc W base args ds gs before hval hW hL
theorem historyAll_said : Rows.HistoryAllSaid :=
 OpenClaim.holds_of_cond 13 Tryz.f13 rfl rfl rfl rfl rfl rfl rfl ⟨rfl, rfl, rfl, rfl, rfl⟩ rfl rfl rfl rfl rfl (by kernel_rfl) Tryz.func13 (by kernel_rfl)
  (of_decide_eq_true (by kernel_rfl)) (by unfold Func.isWrapper; first | (rw [if_pos (by decide +kernel)]; kernel_rfl) | (rw [if_neg (by decide +kernel)]; exact ⟨rfl, rfl⟩))
  (fun os started H enc _ F => by rw [OpenClaim.pre_eq_preRow]; exact historyAll_lifted os started H enc F)
theorem historyAll_plain (f : FuncId) (fn : Func) (hf : Tryz.pinned.checked.prog.funcNamed "limner/limnerlaw20.HistoryAll" = some f) (hfn : Tryz.pinned.checked.prog.funcs[f]? = some fn) :
  true = Tryz.pinned.checked.prog.looks [] ∧ ∀ (j : Nat) t, fn.params[j]? = some t → Tryz.pinned.checked.prog.wantsStandIn t = false := by
 obtain rfl : f = 13 := Option.some.inj ((show Tryz.prog.funcNamed "limner/limnerlaw20.HistoryAll" = some 13 by kernel_rfl).symm.trans hf) |>.symm
 obtain rfl : fn = Tryz.f13 := (Option.some.inj (Tryz.func13.symm.trans hfn)).symm
 refine ⟨by kernel_rfl, fun j t ht => ?_⟩
 rw [historyAll_params] at ht
 have h9 : t = 98 ∨ t = 108 := by simpa using Array.mem_of_getElem? ht
 rcases h9 with rfl | rfl
 ·exact (show Tryz.prog.wantsStandIn 98 = false by kernel_rfl)
 ·exact (show Tryz.prog.wantsStandIn 108 = false by kernel_rfl)
theorem historyAll_card : Rows.HistoryAllCardSaid :=
 Claim7.holds_tied_plain_at .later [] _ _ _ _ historyAll_said (fun _ h => by cases h) (by kernel_rfl) (fun _ h => by cases h) historyAll_row_tie rfl ⟨rfl, rfl⟩ (by kernel_rfl) rfl historyAll_plain (by kernel_rfl)
#print axioms historyAll_card
end Go.Proofs.YtggcpoleklcmkaaGreatDoor
