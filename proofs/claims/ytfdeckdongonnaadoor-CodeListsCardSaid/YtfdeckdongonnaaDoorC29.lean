/-
  Code, the walks: commands and their bytes, there and back.
-/
import Derived.Test.YtfdeckdongonnaaDoorC28
import Derived.Test.YtfdeckdongonnaaDoorC10
import Derived.Test.YtfdeckdongonnaaDoorSepH
namespace Go.Cd
open Go.Sl
theorem Cm.z_at (I : Mem) : Cm.z.at_ I (.slice none 0 0) (.slice none 0 0) (.slice none 0 0) (.slice none 0 0) (.slice none 0 0) :=
  ⟨i64_0, i64_0, i64_0, i64_0, i64_0, i64_0, i64_0, LsAt.nil _ _, Atr.z_at I, Sg.z_ok, Pt.z_ok⟩
/-- What a reader of all the bytes comes to. -/
def Got {α : Type} (w : α → Bs) (ok : α → Prop) (z : α) (bs : Bs) (x : α) (r : Int) : Prop :=
  (r = 0 ∧ ok x ∧ w x = bs ∧ ∀ y, ok y → w y = bs → x = y) ∨ (r = 20 ∧ x = z ∧ ∀ y, ok y → w y ≠ bs)
theorem Got.yes {α : Type} {w : α → Bs} {ok : α → Prop} {z : α} {bs : Bs} {x : α} {s : Option Bs} (h : Reads w ok (some bs) x s) (hs : s = some []) : Got w ok z bs x 0 := by
  subst hs
  obtain ⟨h1, h2⟩ := h.sound [] rfl
  rw [List.append_nil] at h2
  exact .inl ⟨rfl, h1, (Option.some.inj h2).symm, fun y hy he => (h.whole y [] hy (by rw [he, List.append_nil])).1⟩
theorem Got.no {α : Type} {w : α → Bs} {ok : α → Prop} {z : α} {bs : Bs} {x : α} {s : Option Bs} (h : Reads w ok (some bs) x s) (hs : s ≠ some []) : Got w ok z bs z 20 :=
  .inr ⟨rfl, rfl, fun y hy he => hs (h.whole y [] hy (by rw [he, List.append_nil])).2⟩
theorem Pnt.plain_wok {p : Pnt} (h : p.plain) : p.wok = true := by
  unfold Pnt.plain at h
  simp only [Pnt.wok, decide_eq_true_eq]
  rcases h with h | h | h
  · exact .inl h.1
  · exact .inr (.inl h.1)
  · have := h.2.2.1; exact .inr (.inr ⟨h.1, by omega⟩)
theorem Sty.plain_wok {s : Sty} (h : s.plain) : s.wok = true := by
  have := h.2.2.2.2.2.1.1
  simp only [Sty.wok, Pnt.plain_wok h.1, Pnt.plain_wok h.2.1, Bool.and_true, Bool.true_and, decide_eq_true_eq]
  omega
theorem Sg.plain_wok {s : Sg} (h : s.plain) : s.wok = true := by
  simp only [Sg.wok, decide_eq_true_eq]; exact ⟨h.1, h.2.1⟩
theorem path_plain_wok {l : List Sg} (h : l.length ≤ 4096 ∧ ∀ s ∈ l, s.plain) : pathWok l = true := by
  simp only [pathWok, Bool.and_eq_true, Bool.not_eq_true', decide_eq_false_iff_not, List.all_eq_true]
  exact ⟨by omega, fun x hx => Sg.plain_wok (h.2 x hx)⟩
theorem Atr.plain_wok {a : Atr} (h : a.plain) : a.wok = true := by
  simp only [Atr.wok, Sty.plain_wok h.2.1, path_plain_wok h.2.2, Bool.and_true]
theorem ents_plain_wok {l : List Ent} (h : l.length ≤ 65536 ∧ ∀ s ∈ l, s.plain) : entsWok l = true := by
  simp only [entsWok, Bool.and_eq_true, Bool.not_eq_true', decide_eq_false_iff_not, List.all_eq_true]
  exact ⟨by omega, fun x hx => Atr.plain_wok (h.2 x hx).2.2⟩
theorem Cm.plain_wok {c : Cm} (h : c.plain) : c.wok = true := by
  obtain ⟨h1, h2, _, h4⟩ := h
  unfold Cm.okK at h4
  unfold Cm.wok
  have hk : c.kind = 1 ∨ c.kind = 2 ∨ c.kind = 3 ∨ c.kind = 4 ∨ c.kind = 5 ∨ c.kind = 6 ∨ c.kind = 7 ∨ c.kind = 8 ∨ c.kind = 9 ∨ c.kind = 10 ∨ c.kind = 11 ∨ c.kind = 12 := by omega
  rcases hk with k | k | k | k | k | k | k | k | k | k | k | k
  · rw [if_pos k]; rw [if_pos k] at h4; exact ents_plain_wok h4.2.2
  · simp [k]
  · simp [k]
  · simp only [k] at h4 ⊢; exact Atr.plain_wok h4.2.2.2.2
  · simp [k]
  · simp [k]
  · simp only [k] at h4 ⊢; exact Sty.plain_wok h4.2
  · simp only [k] at h4 ⊢; exact path_plain_wok h4.2
  · simp only [k] at h4 ⊢; exact Sg.plain_wok h4.2.2
  · simp [k]
  · simp [k]
  · simp [k]
end Go.Cd
namespace Go.Proofs.YtfdeckdongonnaaDoor
open Go.Sl Go.Cd
set_option maxRecDepth 100000
set_option maxHeartbeats 8000000
set_option linter.unusedVariables false
attribute [local irreducible] WC WL WX WK WA WAK Val Ctr RunRes ResIs Rd At sl box pt Exit.then Exit.inBlock bodyPost Code.wp wpList
theorem readCommand_ctr (v : Value) (bs : Bs) (I : Mem) (hN : NeedAt I) (hb : Byt I v bs) (hl : bs.length ≤ 1099511627776) :
    Ctr Tryd.prog 9 [v] I [] (fun v I' L' => L' = [] ∧ ∃ x e t u d q r, v = .tuple #[.agg (x.cs e t u d q).toArray, vi r] ∧ x.at_ I' e t u d q ∧ Got Cm.w Cm.plain Cm.z bs x r) := by
  obtain ⟨a1, c1, rfl, _⟩ := SlAt.len hb
  refine Ctr.intro Tryd.func9 rfl rfl rfl fun E F => ?_
  refine WC.seq ?_
  refine WC.region ?_
  (refine WL.alloc rfl ?_; intro _)
  refine WL.nApp ?_
  refine WL.val (Val.assignI rfl) rfl ?_
  refine WL.nil ?_
  refine WX.thenC ?_
  refine WC.seq ?_
  refine WC.region ?_
  refine WL.val (Val.moveS rfl) rfl ?_
  refine WL.callP [] rfl rfl (reader_ctr _ bs _ hb hl) rfl ?_
  rintro _ I1 _ hI1 ⟨c, b, sv', rfl, rfl, hB⟩
  refine WL.nApp ?_
  refine WL.val (Val.assignP rfl) rfl ?_
  refine WL.nil ?_
  refine WX.thenC ?_
  refine WC.seq ?_
  refine WC.region ?_
  refine WL.val (Val.moveP rfl) rfl ?_
  refine WL.callP [3, 2] rfl rfl (command_ctr c b sv' false false bs _ (hN.mono hI1) hB) rfl ?_
  rintro _ I2 _ hI2 ⟨x, vs, sv2, d2, d1, bs2, rfl, ⟨e, t, u, d, q, rfl, hx⟩, rfl, hB2, hR⟩
  obtain ⟨b0, r0, b1, r1, b2, r2, b3, r3, b4, r4, rfl, rfl, rfl, rfl, rfl⟩ := hx.sl
  have hI := hI1.trans hI2
  refine WL.nApp ?_
  (refine WL.alloc rfl ?_; intro _)
  refine WL.nApp ?_
  refine WL.stA 4 rfl rfl rfl rfl ?_
  refine WL.nil ?_
  refine WX.thenC ?_
  refine WC.seq ?_
  refine WC.seq ?_
  refine WC.region ?_
  refine WL.val (Val.moveP rfl) rfl ?_
  refine WL.callP [2, 2] rfl rfl (done_ctr c b sv2 d2 d1 bs2 _ hB2) rfl ?_
  rintro _ _ _ - ⟨rfl, rfl, rfl⟩
  by_cases hd : st d1 d2 bs2 = some []
  · rw [decide_eq_true hd]
    refine WL.nApp ?_
    refine WL.val (Val.not rfl) rfl ?_
    refine WL.nil ?_
    refine WX.thenC ?_
    refine WC.condF rfl ?_
    refine WC.skip ?_
    refine WX.thenC ?_
    refine WC.seq ?_
    refine WC.region ?_
    refine WL.val (Val.ldO 2 rfl rfl rfl) rfl ?_
    refine WL.stA 1 rfl rfl rfl rfl ?_
    refine WL.val (Val.assignI rfl) rfl ?_
    refine WL.nil ?_
    refine WX.thenC ?_
    refine WC.ret ?_
    apply WX.doneP (ks := [])
    case hres => exact RunRes.r2 rfl (ResIs.cellL 1 rfl rfl rfl) (ResIs.tmpI rfl)
    case hI => first | exact Mem.le.refl _ | assumption
    exact ⟨rfl, x, _, _, _, _, _, _, rfl, hx, Got.yes hR hd⟩
  · rw [decide_eq_false hd]
    refine WL.nApp ?_
    refine WL.val (Val.not rfl) rfl ?_
    refine WL.nil ?_
    refine WX.thenC ?_
    refine WC.condT rfl ?_
    refine WC.seq ?_
    refine WC.region ?_
    refine WL.val (Val.build0) rfl ?_
    refine WL.stA 1 rfl rfl rfl rfl ?_
    refine WL.val (Val.assignI rfl) rfl ?_
    refine WL.nil ?_
    refine WX.thenC ?_
    refine WC.ret ?_
    refine WX.thenRet ?_
    apply WX.doneP (ks := [])
    case hres => exact RunRes.r2 rfl (ResIs.cellL 1 rfl rfl rfl) (ResIs.tmpI rfl)
    case hI => first | exact Mem.le.refl _ | assumption
    exact ⟨rfl, Cm.z, _, _, _, _, _, _, rfl, Cm.z_at _, Got.no hR hd⟩
/-- The bytes of a plain thing; of another one none. -/
def Put (p : Prop) (w : Bs) : Value → Mem → List HP → Prop := fun v I' L' => L' = [] ∧ ∃ u r, v = .tuple #[u, vi r] ∧ ((p ∧ r = 0 ∧ Byt I' u w) ∨ (¬ p ∧ r = 20 ∧ Byt I' u []))
theorem command2_ctr (c : Cm) (e t u d q : Value) (I : Mem) (hN : NeedAt I) (hc : c.at_ I e t u d q) (hl : c.w.length ≤ 1099511627776) :
    Ctr Tryd.prog 14 [.agg (c.cs e t u d q).toArray] I [] (Put c.plain c.w) := by
  have hc0 := hc
  obtain ⟨a0, c0, a1, c1, a2, c2, a3, c3, a4, c4, rfl, rfl, rfl, rfl, rfl⟩ := hc.sl
  refine Ctr.intro Tryd.func14 rfl rfl rfl fun E F => ?_
  refine WC.seq ?_
  refine WC.region ?_
  (refine WL.boxA rfl rfl ?_; intro _)
  refine WL.nApp ?_
  refine WL.val (Val.assignS rfl) rfl ?_
  refine WL.val (Val.assignI rfl) rfl ?_
  refine WL.nil ?_
  refine WX.thenC ?_
  refine WC.seq ?_
  refine WC.region ?_
  refine WL.val Val.makeFuncL rfl ?_
  rename_i g
  refine WL.freezeBox (xs := c.cs (.slice a0 c.ents.length c0) (.slice a1 c.atr.sty.fill.stops.length c1) (.slice a2 c.atr.sty.pen.stops.length c2) (.slice a3 c.atr.sty.dash.length c3) (.slice a4 c.atr.path.length c4)) 1 rfl fun I1 hI1 hA1 => ?_
  skip
  refine WL.callP [] rfl rfl (encode_ctr 40 (ptr g) c.w c.wok _ hl (fun o sv I' hI' => cmdfn_ctr o g c _ _ _ _ _ sv false [] I' ((hN.mono hI1).mono hI') ((hc.mono hI1).mono hI') (hA1.mono hI') (by simpa using hl))) rfl ?_
  rintro _ I2 _ hI2 ⟨rfl, v1, rfl, hB⟩
  have hI := hI1.trans hI2
  cases hw : c.wok
  · rw [hw] at hB
    obtain ⟨p1, k1, rfl, _⟩ := SlAt.len hB
    refine WL.nApp ?_
    refine WL.val (Val.moveT rfl) rfl ?_
    refine WL.val (Val.extractS rfl rfl) rfl ?_
    refine WL.val (Val.extractI rfl rfl) rfl ?_
    refine WL.val (Val.assignS rfl) rfl ?_
    refine WL.val (Val.assignI rfl) rfl ?_
    refine WL.nil ?_
    refine WX.thenC ?_
    refine WC.seq ?_
    refine WC.seq ?_
    refine WC.region ?_
    refine WL.val (Val.moveI rfl) rfl ?_
    refine WL.val (Val.neq rfl rfl rfl) rfl ?_
    refine WL.nil ?_
    refine WX.thenC ?_
    refine WC.condT rfl ?_
    refine WC.seq ?_
    refine WC.region ?_
    refine WL.val (Val.moveI rfl) rfl ?_
    refine WL.val (Val.assignS rfl) rfl ?_
    refine WL.val (Val.assignI rfl) rfl ?_
    refine WL.nil ?_
    refine WX.thenC ?_
    refine WC.ret ?_
    refine WX.thenRet ?_
    apply WX.doneP (ks := [])
    case hres => exact RunRes.r2 rfl (ResIs.tmpS rfl) (ResIs.tmpI rfl)
    case hI => first | exact Mem.le.refl _ | assumption
    exact ⟨rfl, _, _, rfl, .inr ⟨fun hp => (by rw [Cm.plain_wok hp] at hw; cases hw), rfl, Byt.nil _⟩⟩
  · rw [hw] at hB
    simp only [if_true] at hB
    obtain ⟨p1, k1, rfl, _⟩ := SlAt.len hB
    refine WL.nApp ?_
    refine WL.val (Val.moveT rfl) rfl ?_
    refine WL.val (Val.extractS rfl rfl) rfl ?_
    refine WL.val (Val.extractI rfl rfl) rfl ?_
    refine WL.val (Val.assignS rfl) rfl ?_
    refine WL.val (Val.assignI rfl) rfl ?_
    refine WL.nil ?_
    refine WX.thenC ?_
    refine WC.seq ?_
    refine WC.seq ?_
    refine WC.region ?_
    refine WL.val (Val.moveI rfl) rfl ?_
    refine WL.val (Val.neq rfl rfl rfl) rfl ?_
    refine WL.nil ?_
    refine WX.thenC ?_
    refine WC.condF rfl ?_
    refine WC.skip ?_
    refine WX.thenC ?_
    refine WC.seq ?_
    refine WC.seq ?_
    refine WC.region ?_
    refine WL.val (Val.moveS rfl) rfl ?_
    refine WL.callP [] rfl rfl (reader_ctr _ c.w _ hB hl) rfl ?_
    rintro _ I3 _ hI3 ⟨rc, rb, sv', rfl, rfl, hB3⟩
    refine WL.nApp ?_
    refine WL.callP [2, 1] rfl rfl (command_ctr rc rb sv' false false c.w _ ((hN.mono hI).mono hI3) hB3) rfl ?_
    rintro _ I4 _ hI4 ⟨x, vs, sv2, d2, d1, bs2, rfl, ⟨e, t, u, d, q, rfl, hx⟩, rfl, hB4, hR⟩
    obtain ⟨b0, r0, b1, r1, b2, r2, b3, r3, b4, r4, rfl, rfl, rfl, rfl, rfl⟩ := hx.sl
    have hA4 := ((hA1.mono hI2).mono hI3).mono hI4
    have hc4 := ((hc.mono hI).mono hI3).mono hI4
    have hJ := (hI.trans hI3).trans hI4
    have hnm := Cm.norm_ok hc.fine hw
    have hR' : Reads Cm.w Cm.plain (some c.norm.w) x (st d1 d2 bs2) := by rw [hnm.2]; exact hR
    have hxn : x = c.norm := (reads_back hR' hnm.1).1
    refine WL.nApp ?_
    (refine WL.alloc rfl ?_; intro _)
    refine WL.nApp ?_
    refine WL.stA 3 rfl rfl rfl rfl ?_
    refine WL.nil ?_
    refine WX.thenC ?_
    refine WC.seq ?_
    refine WC.region ?_
    refine WL.val (Val.ldO 3 rfl rfl rfl) rfl ?_
    refine WL.val (Val.loadI rfl (by assumption) rfl) rfl ?_
    refine WL.callE rfl rfl (eqCm x c _ _ _ _ _ _ _ _ _ _ _ hx hc4) rfl (fun h => ?_) (fun h => ?_)
    · skip
      refine WL.val (Val.not rfl) rfl ?_
      refine WL.nil ?_
      refine WX.thenC ?_
      refine WC.condF rfl ?_
      refine WC.skip ?_
      refine WX.thenC ?_
      refine WC.seq ?_
      refine WC.region ?_
      refine WL.val (Val.moveS rfl) rfl ?_
      refine WL.val (Val.assignS rfl) rfl ?_
      refine WL.val (Val.assignI rfl) rfl ?_
      refine WL.nil ?_
      refine WX.thenC ?_
      refine WC.ret ?_
      apply WX.doneP (ks := [])
      case hres => exact RunRes.r2 rfl (ResIs.tmpS rfl) (ResIs.tmpI rfl)
      case hI => first | exact Mem.le.refl _ | assumption
      refine ⟨rfl, _, _, rfl, .inl ⟨?_, rfl, (hB.mono hI3).mono hI4⟩⟩
      rw [← h, hxn]
      exact hnm.1
    · skip
      refine WL.val (Val.not rfl) rfl ?_
      refine WL.nil ?_
      refine WX.thenC ?_
      refine WC.condT rfl ?_
      refine WC.seq ?_
      refine WC.region ?_
      refine WL.val (Val.assignS rfl) rfl ?_
      refine WL.val (Val.assignI rfl) rfl ?_
      refine WL.nil ?_
      refine WX.thenC ?_
      refine WC.ret ?_
      refine WX.thenRet ?_
      apply WX.doneP (ks := [])
      case hres => exact RunRes.r2 rfl (ResIs.tmpS rfl) (ResIs.tmpI rfl)
      case hI => first | exact Mem.le.refl _ | assumption
      exact ⟨rfl, _, _, rfl, .inr ⟨fun hp => h (reads_back hR hp).1, rfl, Byt.nil _⟩⟩
theorem plain_ctr (c : Cm) (e t u d q : Value) (I : Mem) (hN : NeedAt I) (hc : c.at_ I e t u d q) (hl : c.w.length ≤ 1099511627776) :
    Ctr Tryd.prog 15 [.agg (c.cs e t u d q).toArray] I [] (fun v I' L' => L' = [] ∧ EqP c.plain v) := by
  have hc0 := hc
  obtain ⟨a0, c0, a1, c1, a2, c2, a3, c3, a4, c4, rfl, rfl, rfl, rfl, rfl⟩ := hc.sl
  refine Ctr.intro Tryd.func15 rfl rfl rfl fun E F => ?_
  refine WC.seq ?_
  refine WC.region ?_
  (refine WL.boxA rfl rfl ?_; intro _)
  refine WL.nApp ?_
  refine WL.val (Val.assignB rfl) rfl ?_
  refine WL.nil ?_
  refine WX.thenC ?_
  refine WC.seq ?_
  refine WC.region ?_
  refine WL.val (Val.ldO 1 rfl rfl rfl) rfl ?_
  refine WL.callP [] rfl rfl (command2_ctr c _ _ _ _ _ _ hN hc hl) rfl ?_
  rintro _ I2 _ hI2 ⟨rfl, v1, r, rfl, ⟨hp, rfl, hB⟩ | ⟨hp, rfl, hB⟩⟩
  · obtain ⟨p1, k1, rfl, _⟩ := SlAt.len hB
    refine WL.nApp ?_
    refine WL.val (Val.moveT rfl) rfl ?_
    refine WL.val (Val.extractS rfl rfl) rfl ?_
    refine WL.val (Val.extractI rfl rfl) rfl ?_
    refine WL.val (Val.assignS rfl) rfl ?_
    refine WL.val (Val.assignI rfl) rfl ?_
    refine WL.nil ?_
    refine WX.thenC ?_
    refine WC.seq ?_
    refine WC.region ?_
    refine WL.val (Val.moveI rfl) rfl ?_
    refine WL.val (Val.eql rfl rfl (beq_iff_eq.2 (by omega))) rfl ?_
    refine WL.val (Val.assignB rfl) rfl ?_
    refine WL.nil ?_
    refine WX.thenC ?_
    refine WC.ret ?_
    apply WX.doneP (ks := [])
    case hres => exact RunRes.r1 rfl (ResIs.tmpB rfl)
    case hI => first | exact Mem.le.refl _ | assumption
    exact ⟨rfl, EqP.t hp⟩
  · obtain ⟨p1, k1, rfl, _⟩ := SlAt.len hB
    refine WL.nApp ?_
    refine WL.val (Val.moveT rfl) rfl ?_
    refine WL.val (Val.extractS rfl rfl) rfl ?_
    refine WL.val (Val.extractI rfl rfl) rfl ?_
    refine WL.val (Val.assignS rfl) rfl ?_
    refine WL.val (Val.assignI rfl) rfl ?_
    refine WL.nil ?_
    refine WX.thenC ?_
    refine WC.seq ?_
    refine WC.region ?_
    refine WL.val (Val.moveI rfl) rfl ?_
    refine WL.val (Val.eql rfl rfl (beq_eq_false_iff_ne.2 (by omega))) rfl ?_
    refine WL.val (Val.assignB rfl) rfl ?_
    refine WL.nil ?_
    refine WX.thenC ?_
    refine WC.ret ?_
    apply WX.doneP (ks := [])
    case hres => exact RunRes.r1 rfl (ResIs.tmpB rfl)
    case hI => first | exact Mem.le.refl _ | assumption
    exact ⟨rfl, EqP.f hp⟩
end Go.Proofs.YtfdeckdongonnaaDoor
