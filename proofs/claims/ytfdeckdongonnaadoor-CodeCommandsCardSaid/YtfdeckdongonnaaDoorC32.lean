/-
  Code, the walks: the law on lists.
-/
import Derived.Test.YtfdeckdongonnaaDoorC31
import Derived.Test.YtfdeckdongonnaaDoorSepH
namespace Go.Proofs.YtfdeckdongonnaaDoor
open Go.Sl Go.Cd
set_option maxRecDepth 100000
set_option maxHeartbeats 8000000
set_option linter.unusedVariables false
attribute [local irreducible] WC WL WX WK WA WAK Val Ctr RunRes ResIs Rd At sl box pt Exit.then Exit.inBlock bodyPost Code.wp wpList
theorem codeLists_ctr (l : List Cm) (v : Value) (I : Mem) (hN : NeedAt I) (hv : LsAt Cm.rep I l v) : Ctr Tryd.prog 5 [v] I [] Yes := by
  have hv0 := hv
  have hfine : ∀ c ∈ l, c.fine := fun c hc => by obtain ⟨cs, e, t, u, d, q, _, h⟩ := hv.each c hc; exact h.fine
  obtain ⟨a0, c0, rfl⟩ := hv.sl
  refine Ctr.intro Tryd.func5 rfl rfl rfl fun E F => ?_
  by_cases hbig : (20 : Int) < l.length
  · skip
    refine WC.seq ?_
    refine WC.region ?_
    refine WL.val (Val.assignB rfl) rfl ?_
    refine WL.nil ?_
    refine WX.thenC ?_
    refine WC.seq ?_
    refine WC.seq ?_
    refine WC.region ?_
    refine WL.val (Val.moveS rfl) rfl ?_
    refine WL.val (Val.len rfl) rfl ?_
    refine WL.val (Val.gtr rfl rfl (decide_eq_true (by omega))) rfl ?_
    refine WL.nil ?_
    refine WX.thenC ?_
    refine WC.condT rfl ?_
    refine WC.seq ?_
    refine WC.region ?_
    refine WL.callP [] rfl rfl (awake_ctr _ (hN)) rfl ?_
    rintro _ J _ hJ ⟨rfl, rfl⟩
    refine WL.nApp ?_
    refine WL.val (Val.assignB rfl) rfl ?_
    refine WL.nil ?_
    refine WX.thenC ?_
    refine WC.ret ?_
    refine WX.thenRet ?_
    apply WX.doneP (ks := [])
    case hres => exact RunRes.r1 rfl (ResIs.tmpB rfl)
    case hI => first | exact Mem.le.refl _ | assumption
    exact ⟨rfl, rfl⟩
  refine WC.seq ?_
  refine WC.region ?_
  refine WL.val (Val.assignB rfl) rfl ?_
  refine WL.nil ?_
  refine WX.thenC ?_
  refine WC.seq ?_
  refine WC.seq ?_
  refine WC.region ?_
  refine WL.val (Val.moveS rfl) rfl ?_
  refine WL.val (Val.len rfl) rfl ?_
  refine WL.val (Val.gtr rfl rfl (decide_eq_false (by omega))) rfl ?_
  refine WL.nil ?_
  refine WX.thenC ?_
  refine WC.condF rfl ?_
  refine WC.skip ?_
  refine WX.thenC ?_
  refine WC.seq ?_
  refine WC.region ?_
  refine WL.val (Val.assignB rfl) rfl ?_
  refine WL.nil ?_
  refine WX.thenC ?_
  refine WC.seq ?_
  refine WC.region ?_
  refine WL.val (Val.moveS rfl) rfl ?_
  refine WL.val (Val.len rfl) rfl ?_
  (refine WL.buildSlice (by with_unfolding_all exact rfl) rfl (by with_unfolding_all exact rfl) rfl ?_; intro _)
  refine WL.nApp ?_
  rename_i g10
  refine WL.freezeBox (xs := [vi l.length]) 1 rfl fun I10 hI10 hA10 => ?_
  refine WL.callB rfl rfl (rInts [(l.length : Int)] (.slice (some ⟨g10, 0, none⟩) 1 1) _ (litInts [(l.length : Int)] hA10 ⟨⟨by omega, by omega⟩, trivial⟩) (by rw [eInts_one]; have := eInt_len (n := (l.length : Int)) ⟨by omega, by omega⟩; omega)) rfl fun a2 q2 I11 hI11 => ?_
  have hI := hI10.trans hI11
  refine WL.nApp ?_
  refine WL.val (Val.assignS rfl) rfl ?_
  refine WL.nil ?_
  refine WX.thenC ?_
  refine WC.seq ?_
  refine WC.seq ?_
  refine WC.region ?_
  refine WL.val (Val.moveS rfl) rfl ?_
  refine WL.val (Val.len rfl) rfl ?_
  refine WL.val (Val.moveI rfl) rfl ?_
  refine WL.nil ?_
  refine WX.thenC ?_
  refine WC.block ?_
  refine WC.loop (fun n ρ' I' L' => ∃ k : Nat, ∃ a cap okb ws, n = l.length - k ∧ k ≤ l.length ∧ I.le I' ∧ ρ' 0 = .slice a0 l.length c0 ∧ ρ' 3 = .bool okb ∧ ρ' 4 = .slice a (ws : Bs).length cap ∧ ρ' 20 = .slice a0 l.length c0 ∧ ρ' 21 = vi l.length ∧ ρ' 22 = vi k ∧
      L' = [F, sl 5 1 (.slice a ws.length cap) ws.length (ws.map byt)] ∧ (∀ c ∈ l.take k, c.small) ∧ (okb = true ↔ ∀ c ∈ l.take k, c.plain) ∧ (okb = true → ws = (eInts [(l.length : Int)] ++ lk Cm.w l k)))
    l.length ⟨0, _, _, true, _, rfl, by omega, hI, rfl, rfl, rfl, rfl, rfl, rfl, rfl, fun x hx => by simp at hx, ⟨fun _ x hx => by simp at hx, fun _ => rfl⟩, fun _ => by rw [lk_zero, List.append_nil]⟩ ?_
  rintro n ρ' I5 L' ⟨k, a5, q5, okb, ws, rfl, hkl, hI5, h0, h3, h4, h20, h21, h22, rfl, hsm, hok, hws⟩
  rw [← upd_self h22, ← upd_self h21, ← upd_self h20, ← upd_self h4, ← upd_self h3, ← upd_self h0]
  clear h22 h21 h20 h4 h3 h0
  by_cases hkn : k < l.length
  · obtain ⟨b, off, cap', cs, he, ⟨e1, t1, u1, d1, r1, rfl, hi⟩, hA⟩ := (hv.mono hI5).get k hkn
    cases he
    have hs2 : (eInts [(l.length : Int)] ++ lk Cm.w l (k + 1)) = (eInts [(l.length : Int)] ++ lk Cm.w l k) ++ l[k].w := by rw [lk_succ Cm.w l k hkn, List.append_assoc]
    have hsn := all_snoc (P := fun c => c.small) hsm hkn
    have hpn := all_snoc (P := fun c => c.plain) (l := l) (k := k)
    have hmem : l[k] ∈ l.take (k + 1) := by rw [List.take_succ_eq_append_getElem hkn]; exact List.mem_append_right _ (List.mem_singleton.2 rfl)
    have hsub : ∀ c ∈ l.take k, c ∈ l.take (k + 1) := fun c hc => by rw [List.take_succ_eq_append_getElem hkn]; exact List.mem_append_left _ hc
    have hlk := lk_le Cm.w l k
    generalize hx : l[k] = x at *
    obtain ⟨a6, c6, b1, r1, b2, r2, b3, r3, b4, r4, rfl, rfl, rfl, rfl, rfl⟩ := hi.sl
    have hN5 := hN.mono hI5
    refine WC.seq ?_
    refine WC.region ?_
    refine WL.val (Val.lss rfl rfl (decide_eq_true (by omega))) rfl ?_
    refine WL.nil ?_
    refine WX.thenC ?_
    refine WC.seq ?_
    refine WC.condT rfl ?_
    refine WC.skip ?_
    refine WX.thenC ?_
    refine WC.seq ?_
    refine WC.block ?_
    refine WC.seq ?_
    refine WC.region ?_
    refine WL.val (Val.indexAddr rfl rfl (by omega) (by omega)) rfl ?_
    refine WL.val (Val.loadI rfl (by assumption) rfl) rfl ?_
    (refine WL.alloc rfl ?_; intro _)
    refine WL.nApp ?_
    refine WL.stA 2 rfl rfl rfl rfl ?_
    refine WL.nil ?_
    refine WX.thenC ?_
    refine WC.seq ?_
    refine WC.seq ?_
    refine WC.region ?_
    refine WL.val (Val.ldO 2 rfl rfl rfl) rfl ?_
    refine WL.callE rfl rfl (small_ctr x _ _ _ _ _ _ hi) rfl (fun hs => ?_) (fun h => ?_)
    rotate_left
    · skip
      refine WL.val (Val.not rfl) rfl ?_
      refine WL.nil ?_
      refine WX.thenC ?_
      refine WC.condT rfl ?_
      refine WC.seq ?_
      refine WC.region ?_
      refine WL.callP [] rfl rfl (awake_ctr _ (hN5)) rfl ?_
      rintro _ J _ hJ ⟨rfl, rfl⟩
      refine WL.nApp ?_
      refine WL.val (Val.assignB rfl) rfl ?_
      refine WL.nil ?_
      refine WX.thenC ?_
      refine WC.ret ?_
      refine WX.thenRet ?_
      refine WX.inRet ?_
      refine WX.thenRet ?_
      refine WX.thenRet ?_
      refine WX.inRet ?_
      refine WX.thenRet ?_
      have hK := hI5.trans hJ
      apply WX.doneP (ks := [])
      case hres => exact RunRes.r1 rfl (ResIs.tmpB rfl)
      case hI => first | exact Mem.le.refl _ | assumption
      exact ⟨rfl, rfl⟩
    have hl := Cm.w_len hi.fine hs
    have hiff := Cm.plain_iff hi.fine (by have := hs.2.1; omega)
    cases okb
    · skip
      refine WL.val (Val.not rfl) rfl ?_
      refine WL.nil ?_
      refine WX.thenC ?_
      refine WC.condF rfl ?_
      refine WC.skip ?_
      refine WX.thenC ?_
      refine WC.seq ?_
      refine WC.region ?_
      refine WL.val (Val.moveB rfl) rfl ?_
      refine WL.val (Val.moveB rfl) rfl ?_
      refine WL.gF rfl rfl rfl rfl ?_
      refine WL.gF rfl rfl rfl rfl ?_
      refine WL.val (Val.pick rfl) rfl ?_
      refine WL.val (Val.assignB rfl) rfl ?_
      refine WL.nil ?_
      refine WX.thenC ?_
      refine WC.seq ?_
      refine WC.region ?_
      refine WL.val (Val.moveB rfl) rfl ?_
      refine WL.nil ?_
      refine WX.thenC ?_
      refine WC.condF rfl ?_
      refine WC.skip ?_
      refine WX.inNormal ?_
      refine WX.thenC ?_
      refine WC.region ?_
      refine WL.val (Val.add rfl rfl (wrap_i64 (by omega) (by omega))) rfl ?_
      refine WL.val (Val.moveI rfl) rfl ?_
      refine WL.nil ?_
      refine WX.conv (fun w h => h.sub [0, 0] rfl) ?_
      refine WX.thenK (WK.round (l.length - (k + 1)) (by omega) ⟨k + 1, _, _, false, ws, rfl, by omega, hI5, rfl, rfl, rfl, rfl, rfl, rfl, rfl, hsn hs, ⟨fun h => (by cases h), fun h => ?_⟩, fun h => (by cases h)⟩)
      have := hok.2 fun c hc => h c (hsub c hc)
      cases this
    · obtain rfl := hws rfl
      refine WL.val (Val.not rfl) rfl ?_
      refine WL.nil ?_
      refine WX.thenC ?_
      refine WC.condF rfl ?_
      refine WC.skip ?_
      refine WX.thenC ?_
      refine WC.seq ?_
      refine WC.region ?_
      refine WL.val (Val.moveB rfl) rfl ?_
      refine WL.val (Val.moveB rfl) rfl ?_
      refine WL.gT rfl rfl ?_
      refine WL.val (Val.ldO 2 rfl rfl rfl) rfl ?_
      refine WL.gT rfl rfl ?_
      refine WL.callE rfl rfl (right_ctr x _ _ _ _ _ _ hN5 hi) rfl (fun hr => ?_) (fun hr => ?_)
      · have hbd : ((eInts [(l.length : Int)] ++ lk Cm.w l k) ++ x.w).length ≤ 1099511627776 := by
          have h1 := eInt_len (n := (l.length : Int)) ⟨by omega, by omega⟩
          have h2 : (lk Cm.w l k).length ≤ 4000000 := by
            have h4 := flat_len (w := Cm.w) (B := 200000) (l := l.take k) fun c hc => Cm.w_len (hfine c (List.mem_of_mem_take hc)) (hsm c hc)
            have h3 : (l.take k).length ≤ 20 := by rw [List.length_take]; omega
            exact Nat.le_trans h4 (Nat.mul_le_mul_right 200000 h3)
          rw [eInts_one]
          simp only [List.length_append]
          omega
        refine WL.val (Val.pick rfl) rfl ?_
        refine WL.val (Val.assignB rfl) rfl ?_
        refine WL.nil ?_
        refine WX.thenC ?_
        refine WC.seq ?_
        refine WC.region ?_
        refine WL.val (Val.moveB rfl) rfl ?_
        refine WL.nil ?_
        refine WX.thenC ?_
        refine WC.condT rfl ?_
        refine WC.region ?_
        refine WL.val (Val.moveS rfl) rfl ?_
        refine WL.val (Val.ldO 2 rfl rfl rfl) rfl ?_
        refine WL.callF rfl rfl (cmdB x _ _ _ _ _ _ hN5 hi hr (by omega)).frzB rfl fun a7 q7 I7 hI7 hB7 => ?_
        refine WL.appB 1 rfl rfl rfl hB7 rfl hbd rfl fun a8 q8 => ?_
        refine WL.nSet ?_
        refine WL.val (Val.assignS rfl) rfl ?_
        refine WL.nil ?_
        refine WX.inNormal ?_
        refine WX.thenC ?_
        refine WC.region ?_
        refine WL.val (Val.add rfl rfl (wrap_i64 (by omega) (by omega))) rfl ?_
        refine WL.val (Val.moveI rfl) rfl ?_
        refine WL.nil ?_
        refine WX.conv (fun w h => h.sub [0, 0] rfl) ?_
        exact WX.thenK (WK.round (l.length - (k + 1)) (by omega) ⟨k + 1, _, _, true, _, rfl, by omega, hI5.trans hI7, rfl, rfl, rfl, rfl, rfl, rfl, rfl, hsn hs, ⟨fun _ => hpn (hok.1 rfl) hkn (hx ▸ hiff.2 hr), fun _ => rfl⟩, fun _ => by rw [hs2]⟩)
      · skip
        refine WL.val (Val.pick rfl) rfl ?_
        refine WL.val (Val.assignB rfl) rfl ?_
        refine WL.nil ?_
        refine WX.thenC ?_
        refine WC.seq ?_
        refine WC.region ?_
        refine WL.val (Val.moveB rfl) rfl ?_
        refine WL.nil ?_
        refine WX.thenC ?_
        refine WC.condF rfl ?_
        refine WC.skip ?_
        refine WX.inNormal ?_
        refine WX.thenC ?_
        refine WC.region ?_
        refine WL.val (Val.add rfl rfl (wrap_i64 (by omega) (by omega))) rfl ?_
        refine WL.val (Val.moveI rfl) rfl ?_
        refine WL.nil ?_
        refine WX.conv (fun w h => h.sub [0, 0] rfl) ?_
        refine WX.thenK (WK.round (l.length - (k + 1)) (by omega) ⟨k + 1, _, _, false, _, rfl, by omega, hI5, rfl, rfl, rfl, rfl, rfl, rfl, rfl, hsn hs, ⟨fun h => (by cases h), fun h => ?_⟩, fun h => (by cases h)⟩)
        exact absurd (hiff.1 (h x hmem)) hr
  · obtain rfl : k = l.length := by omega
    rw [List.take_length] at hsm hok
    have hwl : (eInts [(l.length : Int)] ++ lk Cm.w l l.length) = lw Cm.w l := by rw [lk_all, eInts_one]; rfl
    have hws' : okb = true → ws = lw Cm.w l := fun h => (hws h).trans hwl
    replace hws := hws'
    have hN5 := hN.mono hI5
    have hv5 := hv.mono hI5
    have hbd : (lw Cm.w l).length ≤ 1099511627776 := by
      have h1 := eInt_len (n := (l.length : Int)) ⟨by omega, by omega⟩
      have h4 := flat_len (w := Cm.w) (B := 200000) (l := l) fun c hc => Cm.w_len (hfine c hc) (hsm c hc)
      have h3 : l.length ≤ 20 := by omega
      have h2 : ((l.map Cm.w).flatten).length ≤ 4000000 := Nat.le_trans h4 (Nat.mul_le_mul_right 200000 h3)
      clear h4
      unfold lw
      rw [List.length_append]
      omega
    refine WC.seq ?_
    refine WC.region ?_
    refine WL.val (Val.lss rfl rfl (decide_eq_false (by omega))) rfl ?_
    refine WL.nil ?_
    refine WX.thenC ?_
    refine WC.seq ?_
    refine WC.condF rfl ?_
    refine WC.exit ?_
    refine WX.thenExit ?_
    refine WX.thenExit ?_
    refine WX.inHit ?_
    refine WX.thenC ?_
    refine WC.seq ?_
    refine WC.region ?_
    refine WL.val (Val.moveS rfl) rfl ?_
    refine WL.callP [] rfl rfl (commands_ctr l _ _ hN5 hv5 (by omega) hbd) rfl ?_
    rintro _ I6 _ hI6 ⟨rfl, v1, r, rfl, ⟨hp, rfl, hB⟩ | ⟨hp, rfl, hB⟩⟩
    · obtain rfl : okb = true := hok.2 hp
      obtain rfl := hws rfl
      obtain ⟨p1, k1, rfl, _⟩ := SlAt.len hB
      have hN6 := hN5.mono hI6
      have hv6 := hv5.mono hI6
      have hokL : okL l := ⟨by omega, hp⟩
      refine WL.nApp ?_
      refine WL.val (Val.moveT rfl) rfl ?_
      refine WL.val (Val.extractS rfl rfl) rfl ?_
      refine WL.val (Val.extractI rfl rfl) rfl ?_
      refine WL.val (Val.assignS rfl) rfl ?_
      refine WL.val (Val.assignI rfl) rfl ?_
      refine WL.nil ?_
      refine WX.thenC ?_
      refine WC.seq ?_
      refine WC.seq ?_
      refine WC.region ?_
      refine WL.val (Val.moveB rfl) rfl ?_
      refine WL.val (Val.not rfl) rfl ?_
      refine WL.nil ?_
      refine WX.thenC ?_
      refine WC.condF rfl ?_
      refine WC.skip ?_
      refine WX.thenC ?_
      refine WC.seq ?_
      refine WC.region ?_
      refine WL.val (Val.moveS rfl) rfl ?_
      refine WL.callP [] rfl rfl (readCommands_ctr _ (lw Cm.w l) _ hN6 hB hbd) rfl ?_
      rintro _ I7 _ hI7 ⟨rfl, m, u, r, rfl, hm, ⟨rfl, _, _, hu⟩ | ⟨rfl, _, hno⟩⟩
      rotate_left
      · exact absurd rfl (hno l hokL)
      obtain rfl : l = m := (hu l hokL rfl).symm
      have hm0 := hm
      obtain ⟨b0, r0, rfl⟩ := hm.sl
      have hv7 := hv6.mono hI7
      have hN7 := hN6.mono hI7
      refine WL.nApp ?_
      refine WL.val (Val.moveT rfl) rfl ?_
      refine WL.val (Val.extractS rfl rfl) rfl ?_
      refine WL.val (Val.extractI rfl rfl) rfl ?_
      refine WL.val (Val.assignS rfl) rfl ?_
      refine WL.val (Val.assignI rfl) rfl ?_
      refine WL.nil ?_
      refine WX.thenC ?_
      refine WC.seq ?_
      refine WC.seq ?_
      refine WC.region ?_
      refine WL.val (Val.moveI rfl) rfl ?_
      refine WL.val (Val.neq rfl rfl (bne_eq_false_iff_eq.2 (by omega))) rfl ?_
      refine WL.val (Val.moveB rfl) rfl ?_
      refine WL.gT rfl rfl ?_
      refine WL.val (Val.moveS rfl) rfl ?_
      refine WL.gT rfl rfl ?_
      refine WL.val (Val.str rfl (hB.mono hI7)) rfl ?_
      refine WL.gT rfl rfl ?_
      refine WL.val (Val.moveS rfl) rfl ?_
      refine WL.gT rfl rfl ?_
      refine WL.freeze 1 rfl fun I8 hI8 hW => ?_
      refine WL.val (Val.str rfl (show Byt I8 _ (lw Cm.w l) from hW)) rfl ?_
      refine WL.gT rfl rfl ?_
      refine WL.val (Val.neqStrF rfl rfl rfl) rfl ?_
      refine WL.val (Val.pick rfl) rfl ?_
      refine WL.val (Val.moveB rfl) rfl ?_
      refine WL.gT rfl rfl ?_
      refine WL.val (Val.moveI rfl) rfl ?_
      refine WL.gT rfl rfl ?_
      refine WL.val (Val.neq rfl rfl (bne_eq_false_iff_eq.2 (by omega))) rfl ?_
      refine WL.val (Val.pick rfl) rfl ?_
      refine WL.val (Val.moveB rfl) rfl ?_
      refine WL.gT rfl rfl ?_
      refine WL.val (Val.moveS rfl) rfl ?_
      refine WL.gT rfl rfl ?_
      refine WL.val (Val.len rfl) rfl ?_
      refine WL.gT rfl rfl ?_
      refine WL.val (Val.moveS rfl) rfl ?_
      refine WL.gT rfl rfl ?_
      refine WL.val (Val.len rfl) rfl ?_
      refine WL.gT rfl rfl ?_
      refine WL.val (Val.neq rfl rfl (bne_eq_false_iff_eq.2 (by omega))) rfl ?_
      refine WL.val (Val.pick rfl) rfl ?_
      refine WL.nil ?_
      refine WX.thenC ?_
      refine WC.condF rfl ?_
      refine WC.skip ?_
      refine WX.thenC ?_
      refine WC.seq ?_
      refine WC.seq ?_
      refine WC.region ?_
      refine WL.val (Val.moveS rfl) rfl ?_
      refine WL.val (Val.len rfl) rfl ?_
      refine WL.val (Val.moveI rfl) rfl ?_
      refine WL.nil ?_
      refine WX.thenC ?_
      refine WC.block ?_
      refine WC.loop (fun n ρ' I' L' => ∃ k : Nat, n = l.length - k ∧ k ≤ l.length ∧ I' = I8 ∧ ρ' 0 = .slice a0 l.length c0 ∧ ρ' 9 = .slice b0 l.length r0 ∧ ρ' 84 = vi l.length ∧ ρ' 85 = vi k ∧ L' = [F])
        l.length ⟨0, rfl, by omega, rfl, rfl, rfl, rfl, rfl, rfl⟩ ?_
      rintro n ρ' I9 L' ⟨k, rfl, hkl, rfl, h0, h9, h84, h85, rfl⟩
      rw [← upd_self h85, ← upd_self h84, ← upd_self h9, ← upd_self h0]
      clear h85 h84 h9 h0
      by_cases hkn : k < l.length
      · obtain ⟨b, off, cap', cs, he, ⟨e1, t1, u1, d1, r1, rfl, hi⟩, hA⟩ := (hv7.mono hI8).get k hkn
        cases he
        obtain ⟨b', off', cap'', cs', he', ⟨e2, t2, u2, d2, r2, rfl, hi'⟩, hA'⟩ := (hm.mono hI8).get k hkn
        cases he'
        generalize hx : l[k] = x at *
        obtain ⟨a6, c6, b1, r1, b2, r2, b3, r3, b4, r4, rfl, rfl, rfl, rfl, rfl⟩ := hi.sl
        obtain ⟨m6, n6, m1, n1, m2, n2, m3, n3, m4, n4, rfl, rfl, rfl, rfl, rfl⟩ := hi'.sl
        refine WC.seq ?_
        refine WC.region ?_
        refine WL.val (Val.lss rfl rfl (decide_eq_true (by omega))) rfl ?_
        refine WL.nil ?_
        refine WX.thenC ?_
        refine WC.seq ?_
        refine WC.condT rfl ?_
        refine WC.skip ?_
        refine WX.thenC ?_
        refine WC.seq ?_
        refine WC.block ?_
        refine WC.seq ?_
        refine WC.region ?_
        refine WL.val (Val.moveI rfl) rfl ?_
        refine WL.val (Val.assignI rfl) rfl ?_
        refine WL.nil ?_
        refine WX.thenC ?_
        refine WC.seq ?_
        refine WC.drawK 999 I9 [] rfl (by kernel_rfl) rfl rfl ?_
        refine WA.take 0 rfl (by kernel_rfl) rfl (fun w h => (h.sub [] rfl)) (Val.moveS rfl) rfl ?_
        refine WA.take 1 rfl (by kernel_rfl) rfl (fun w h => (h.sub [] rfl)) (Val.moveI rfl) rfl ?_
        refine WA.take 2 rfl (by kernel_rfl) rfl (fun w h => (h.sub [] rfl)) (Val.indexAddr rfl rfl (by omega) (by omega)) rfl ?_
        refine WA.take 3 rfl (by kernel_rfl) rfl (fun w h => (h.sub [] rfl)) (Val.loadI rfl (by assumption) rfl) rfl ?_
        refine WA.take 4 rfl (by kernel_rfl) rfl (fun w h => (h.sub [] rfl)) (Val.moveS rfl) rfl ?_
        refine WA.take 5 rfl (by kernel_rfl) rfl (fun w h => (h.sub [] rfl)) (Val.moveI rfl) rfl ?_
        refine WA.take 6 rfl (by kernel_rfl) rfl (fun w h => (h.sub [] rfl)) (Val.indexAddr rfl rfl (by omega) (by omega)) rfl ?_
        refine WA.take 7 rfl (by kernel_rfl) rfl (fun w h => (h.sub [] rfl)) (Val.loadI rfl (by assumption) rfl) rfl ?_
        refine WA.eff1 (i := 8) (by kernel_rfl) rfl rfl ?_
        refine WL.callE rfl rfl (eqCm x x _ _ _ _ _ _ _ _ _ _ _ hi hi') rfl (fun _ => ?_) (fun h => absurd rfl h)
        refine WL.nil ?_
        refine WK.anyStep (fun w h => (h.sub [] rfl)) ?_
        refine WA.take 9 rfl (by kernel_rfl) rfl (fun w h => (h.sub [] rfl)) (Val.not rfl) rfl ?_
        refine WA.done (by kernel_rfl) ?_
        refine WX.thenC ?_
        refine WC.condF rfl ?_
        refine WC.skip ?_
        refine WX.inNormal ?_
        refine WX.thenC ?_
        refine WC.region ?_
        refine WL.val (Val.add rfl rfl (wrap_i64 (by omega) (by omega))) rfl ?_
        refine WL.val (Val.moveI rfl) rfl ?_
        refine WL.nil ?_
        exact WX.thenK (WK.round (l.length - (k + 1)) (by omega) ⟨k + 1, rfl, by omega, rfl, rfl, rfl, rfl, rfl, rfl⟩)
      · skip
        refine WC.seq ?_
        refine WC.region ?_
        refine WL.val (Val.lss rfl rfl (decide_eq_false (by omega))) rfl ?_
        refine WL.nil ?_
        refine WX.thenC ?_
        refine WC.seq ?_
        refine WC.condF rfl ?_
        refine WC.exit ?_
        refine WX.thenExit ?_
        refine WX.thenExit ?_
        refine WX.inHit ?_
        refine WX.thenC ?_
        refine WC.seq ?_
        refine WC.region ?_
        refine WL.callP [] rfl rfl (awake_ctr _ (hN7.mono hI8)) rfl ?_
        rintro _ J _ hJ ⟨rfl, rfl⟩
        refine WL.nApp ?_
        refine WL.val (Val.assignB rfl) rfl ?_
        refine WL.nil ?_
        refine WX.thenC ?_
        refine WC.ret ?_
        have hK := hI5.trans (((hI6.trans hI7).trans hI8).trans hJ)
        apply WX.doneP (ks := [])
        case hres => exact RunRes.r1 rfl (ResIs.tmpB rfl)
        case hI => first | exact Mem.le.refl _ | assumption
        exact ⟨rfl, rfl⟩
    · obtain rfl : okb = false := by
        cases okb
        · rfl
        · exact absurd (hok.1 rfl) hp
      obtain ⟨p1, k1, rfl⟩ := Byt.empty hB
      refine WL.nApp ?_
      refine WL.val (Val.moveT rfl) rfl ?_
      refine WL.val (Val.extractS rfl rfl) rfl ?_
      refine WL.val (Val.extractI rfl rfl) rfl ?_
      refine WL.val (Val.assignS rfl) rfl ?_
      refine WL.val (Val.assignI rfl) rfl ?_
      refine WL.nil ?_
      refine WX.thenC ?_
      refine WC.seq ?_
      refine WC.seq ?_
      refine WC.region ?_
      refine WL.val (Val.moveB rfl) rfl ?_
      refine WL.val (Val.not rfl) rfl ?_
      refine WL.nil ?_
      refine WX.thenC ?_
      refine WC.condT rfl ?_
      refine WC.seq ?_
      refine WC.region ?_
      refine WL.val (Val.moveI rfl) rfl ?_
      refine WL.val (Val.eql rfl rfl (beq_iff_eq.2 (by omega))) rfl ?_
      refine WL.val (Val.moveB rfl) rfl ?_
      refine WL.gT rfl rfl ?_
      refine WL.val (Val.moveS rfl) rfl ?_
      refine WL.gT rfl rfl ?_
      refine WL.val (Val.len rfl) rfl ?_
      refine WL.gT rfl rfl ?_
      refine WL.val (Val.eql rfl rfl (beq_iff_eq.2 (by omega))) rfl ?_
      refine WL.val (Val.pick rfl) rfl ?_
      refine WL.val (Val.moveB rfl) rfl ?_
      refine WL.gT rfl rfl ?_
      refine WL.callP [] rfl rfl (awake_ctr _ (hN5.mono hI6)) rfl ?_
      rintro _ J _ hJ ⟨rfl, rfl⟩
      refine WL.nApp ?_
      refine WL.val (Val.pick rfl) rfl ?_
      refine WL.val (Val.assignB rfl) rfl ?_
      refine WL.nil ?_
      refine WX.thenC ?_
      refine WC.ret ?_
      refine WX.thenRet ?_
      have hK := hI5.trans (hI6.trans hJ)
      apply WX.doneP (ks := [])
      case hres => exact RunRes.r1 rfl (ResIs.tmpB rfl)
      case hI => first | exact Mem.le.refl _ | assumption
      exact ⟨rfl, rfl⟩
end Go.Proofs.YtfdeckdongonnaaDoor
