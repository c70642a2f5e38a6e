/-
  Code, the walks: lists of commands, entries, there and back.
-/
import Derived.Test.YtfdeckdongonnaaDoorC29
import Derived.Test.YtfdeckdongonnaaDoorSepH
namespace Go.Cd
open Go.Sl
def okE (l : List Ent) : Prop := (l.length : Int) ≤ 65536 ∧ ∀ x ∈ l, x.plain
def okL (l : List Cm) : Prop := (l.length : Int) ≤ 4096 ∧ ∀ x ∈ l, x.plain
theorem okE.wok {l : List Ent} (h : okE l) : entsWok l = true := ents_plain_wok ⟨by have := h.1; omega, h.2⟩
theorem eInt_small {n : Int} (h0 : 0 ≤ n) (h1 : n < 64) : eInt n = [fb (2 * n).toNat] := by
  unfold eInt zig
  rw [if_pos h0, leb_small (by omega)]
theorem flat_ge {α : Type} {w : α → Bs} {l : List α} : ∀ x ∈ l, (w x).length ≤ ((l.map w).flatten).length := by
  induction l with
  | nil => intro x hx; cases hx
  | cons a l ih =>
    intro x hx
    rw [List.map_cons, List.flatten_cons, List.length_append]
    rcases List.mem_cons.1 hx with rfl | hx
    · omega
    · have := ih x hx; omega
theorem Cm.w_pos (c : Cm) : 1 ≤ c.w.length := by
  have := eInt_pos c.kind
  unfold Cm.w
  rw [List.length_append]
  omega
end Go.Cd
namespace Go.Proofs.YtfdeckdongonnaaDoor
open Go.Sl Go.Cd
set_option maxRecDepth 100000
set_option maxHeartbeats 8000000
set_option linter.unusedVariables false
attribute [local irreducible] WC WL WX WK WA WAK Val Ctr RunRes ResIs Rd At sl box pt Exit.then Exit.inBlock bodyPost Code.wp wpList
theorem entries2_ctr (l : List Ent) (v : Value) (I : Mem) (hN : NeedAt I) (hv : LsAt Ent.rep I l v) (hl : (lw Ent.w l).length ≤ 1099511627776) :
    Ctr Tryd.prog 19 [v] I [] (Put (okE l) (lw Ent.w l)) := by
  have hv0 := hv
  obtain ⟨a0, c0, rfl⟩ := hv.sl
  refine Ctr.intro Tryd.func19 rfl rfl rfl fun E F => ?_
  refine WC.seq ?_
  refine WC.region ?_
  (refine WL.box rfl rfl ?_; intro _)
  refine WL.nApp ?_
  refine WL.val (Val.assignS rfl) rfl ?_
  refine WL.val (Val.assignI rfl) rfl ?_
  refine WL.nil ?_
  refine WX.thenC ?_
  refine WC.seq ?_
  refine WC.region ?_
  refine WL.val Val.makeFuncL rfl ?_
  rename_i g
  refine WL.freezeBox (xs := [.slice a0 l.length c0]) 1 rfl fun I1 hI1 hA1 => ?_
  skip
  refine WL.callP [] rfl rfl (encode_ctr 46 (ptr g) (lw Ent.w l) (entsWok l) _ hl (fun o sv I' hI' => entfn_ctr o g l _ sv false [] I' ((hN.mono hI1).mono hI') ((hv.mono hI1).mono hI') (hA1.mono hI') (by simpa using hl))) rfl ?_
  rintro _ I2 _ hI2 ⟨rfl, v1, rfl, hB⟩
  have hI := hI1.trans hI2
  cases hw : entsWok l
  · rw [hw] at hB
    obtain ⟨p1, k1, rfl, _⟩ := SlAt.len hB
    refine WL.nApp ?_
    refine WL.val (Val.moveT rfl) rfl ?_
    refine WL.val (Val.extractS rfl rfl) rfl ?_
    refine WL.val (Val.extractI rfl rfl) rfl ?_
    refine WL.val (Val.assignS rfl) rfl ?_
    refine WL.val (Val.assignI rfl) rfl ?_
    refine WL.nil ?_
    refine WX.thenC ?_
    refine WC.seq ?_
    refine WC.seq ?_
    refine WC.region ?_
    refine WL.val (Val.moveI rfl) rfl ?_
    refine WL.val (Val.neq rfl rfl rfl) rfl ?_
    refine WL.nil ?_
    refine WX.thenC ?_
    refine WC.condT rfl ?_
    refine WC.seq ?_
    refine WC.region ?_
    refine WL.val (Val.moveI rfl) rfl ?_
    refine WL.val (Val.assignS rfl) rfl ?_
    refine WL.val (Val.assignI rfl) rfl ?_
    refine WL.nil ?_
    refine WX.thenC ?_
    refine WC.ret ?_
    refine WX.thenRet ?_
    apply WX.doneP (ks := [])
    case hres => exact RunRes.r2 rfl (ResIs.tmpS rfl) (ResIs.tmpI rfl)
    case hI => first | exact Mem.le.refl _ | assumption
    exact ⟨rfl, _, _, rfl, .inr ⟨fun hp => (by rw [hp.wok] at hw; cases hw), rfl, Byt.nil _⟩⟩
  · rw [hw] at hB
    simp only [if_true] at hB
    obtain ⟨p1, k1, rfl, _⟩ := SlAt.len hB
    refine WL.nApp ?_
    refine WL.val (Val.moveT rfl) rfl ?_
    refine WL.val (Val.extractS rfl rfl) rfl ?_
    refine WL.val (Val.extractI rfl rfl) rfl ?_
    refine WL.val (Val.assignS rfl) rfl ?_
    refine WL.val (Val.assignI rfl) rfl ?_
    refine WL.nil ?_
    refine WX.thenC ?_
    refine WC.seq ?_
    refine WC.seq ?_
    refine WC.region ?_
    refine WL.val (Val.moveI rfl) rfl ?_
    refine WL.val (Val.neq rfl rfl rfl) rfl ?_
    refine WL.nil ?_
    refine WX.thenC ?_
    refine WC.condF rfl ?_
    refine WC.skip ?_
    refine WX.thenC ?_
    refine WC.seq ?_
    refine WC.seq ?_
    refine WC.region ?_
    refine WL.val (Val.moveS rfl) rfl ?_
    refine WL.callP [] rfl rfl (reader_ctr _ (lw Ent.w l) _ hB hl) rfl ?_
    rintro _ I3 _ hI3 ⟨rc, rb, sv', rfl, rfl, hB3⟩
    refine WL.nApp ?_
    refine WL.callP [2, 1] rfl rfl (entries_ctr rc rb sv' false false (lw Ent.w l) _ ((hN.mono hI).mono hI3) hB3) rfl ?_
    rintro _ I4 _ hI4 ⟨x, sv2, d2, d1, bs2, hx, rfl, hB4, hR⟩
    have hx0 := hx
    obtain ⟨b0, r0, rfl⟩ := hx.sl
    have hA4 := ((hA1.mono hI2).mono hI3).mono hI4
    have hv4 := ((hv.mono hI).mono hI3).mono hI4
    have hJ := (hI.trans hI3).trans hI4
    have hnm := ents_norm (entsFine hv) hw
    have hnw := ents_norm_w hw
    have hR' : Reads (lw Ent.w) (fun l => (l.length : Int) ≤ 65536 ∧ ∀ x ∈ l, x.plain) (some (lw Ent.w (l.map Ent.norm))) x (st d1 d2 bs2) := by rw [hnw]; exact hR
    have hxn : x = l.map Ent.norm := (reads_back hR' ⟨by have := hnm.1; omega, hnm.2⟩).1
    refine WL.nApp ?_
    refine WL.val (Val.assignS rfl) rfl ?_
    refine WL.nil ?_
    refine WX.thenC ?_
    refine WC.seq ?_
    refine WC.region ?_
    refine WL.val (Val.moveS rfl) rfl ?_
    refine WL.val (Val.loadS rfl (Rd.imm (by assumption))) rfl ?_
    refine WL.callE rfl rfl (eqSame x l _ _ _ hx hv4) rfl (fun h => ?_) (fun h => ?_)
    · skip
      refine WL.val (Val.not rfl) rfl ?_
      refine WL.nil ?_
      refine WX.thenC ?_
      refine WC.condF rfl ?_
      refine WC.skip ?_
      refine WX.thenC ?_
      refine WC.seq ?_
      refine WC.region ?_
      refine WL.val (Val.moveS rfl) rfl ?_
      refine WL.val (Val.assignS rfl) rfl ?_
      refine WL.val (Val.assignI rfl) rfl ?_
      refine WL.nil ?_
      refine WX.thenC ?_
      refine WC.ret ?_
      apply WX.doneP (ks := [])
      case hres => exact RunRes.r2 rfl (ResIs.tmpS rfl) (ResIs.tmpI rfl)
      case hI => first | exact Mem.le.refl _ | assumption
      refine ⟨rfl, _, _, rfl, .inl ⟨?_, rfl, (hB.mono hI3).mono hI4⟩⟩
      rw [← h, hxn]
      exact ⟨by have := hnm.1; omega, hnm.2⟩
    · skip
      refine WL.val (Val.not rfl) rfl ?_
      refine WL.nil ?_
      refine WX.thenC ?_
      refine WC.condT rfl ?_
      refine WC.seq ?_
      refine WC.region ?_
      refine WL.val (Val.assignS rfl) rfl ?_
      refine WL.val (Val.assignI rfl) rfl ?_
      refine WL.nil ?_
      refine WX.thenC ?_
      refine WC.ret ?_
      refine WX.thenRet ?_
      apply WX.doneP (ks := [])
      case hres => exact RunRes.r2 rfl (ResIs.tmpS rfl) (ResIs.tmpI rfl)
      case hI => first | exact Mem.le.refl _ | assumption
      exact ⟨rfl, _, _, rfl, .inr ⟨fun hp => h (reads_back hR hp).1, rfl, Byt.nil _⟩⟩
theorem readEntries_ctr (v : Value) (bs : Bs) (I : Mem) (hN : NeedAt I) (hb : Byt I v bs) (hl : bs.length ≤ 1099511627776) :
    Ctr Tryd.prog 21 [v] I [] (fun v I' L' => L' = [] ∧ ∃ l u r, v = .tuple #[u, vi r] ∧ LsAt Ent.rep I' l u ∧ Got (lw Ent.w) okE [] bs l r) := by
  have hb0 := hb
  obtain ⟨a1, c1, rfl, _⟩ := SlAt.len hb
  refine Ctr.intro Tryd.func21 rfl rfl rfl fun E F => ?_
  refine WC.seq ?_
  refine WC.region ?_
  refine WL.val (Val.assignS rfl) rfl ?_
  refine WL.val (Val.assignI rfl) rfl ?_
  refine WL.nil ?_
  refine WX.thenC ?_
  refine WC.seq ?_
  refine WC.region ?_
  refine WL.val (Val.moveS rfl) rfl ?_
  refine WL.callP [] rfl rfl (reader_ctr _ bs _ hb hl) rfl ?_
  rintro _ I1 _ hI1 ⟨c, b, sv', rfl, rfl, hB⟩
  refine WL.nApp ?_
  refine WL.val (Val.assignP rfl) rfl ?_
  refine WL.nil ?_
  refine WX.thenC ?_
  refine WC.seq ?_
  refine WC.region ?_
  refine WL.val (Val.moveP rfl) rfl ?_
  refine WL.callP [2, 1] rfl rfl (entries_ctr c b sv' false false bs _ (hN.mono hI1) hB) rfl ?_
  rintro _ I2 _ hI2 ⟨x, sv2, d2, d1, bs2, hx, rfl, hB2, hR⟩
  have hx0 := hx
  obtain ⟨b0, r0, rfl⟩ := hx.sl
  have hI := hI1.trans hI2
  refine WL.nApp ?_
  refine WL.val (Val.assignS rfl) rfl ?_
  refine WL.nil ?_
  refine WX.thenC ?_
  refine WC.seq ?_
  refine WC.seq ?_
  refine WC.region ?_
  refine WL.val (Val.moveP rfl) rfl ?_
  refine WL.callP [1, 1] rfl rfl (done_ctr c b sv2 d2 d1 bs2 _ hB2) rfl ?_
  rintro _ _ _ - ⟨rfl, rfl, rfl⟩
  by_cases hd : st d1 d2 bs2 = some []
  · rw [decide_eq_true hd]
    have hR0 : Reads (lw Ent.w) okE (some bs) x (st d1 d2 bs2) := hR
    have hg := Got.yes (z := ([] : List Ent)) hR0 hd
    have hg2 := hg
    obtain ⟨_, hok, hw, _⟩ | ⟨h0, _⟩ := hg2
    · skip
      refine WL.nApp ?_
      refine WL.val (Val.not rfl) rfl ?_
      refine WL.nil ?_
      refine WX.thenC ?_
      refine WC.condF rfl ?_
      refine WC.skip ?_
      refine WX.thenC ?_
      refine WC.seq ?_
      refine WC.seq ?_
      refine WC.region ?_
      refine WL.val (Val.moveS rfl) rfl ?_
      refine WL.callP [] rfl rfl (entries2_ctr x _ _ (hN.mono hI) hx (by rw [hw]; exact hl)) rfl ?_
      rintro _ I3 _ hI3 ⟨rfl, v1, r, rfl, ⟨hp, rfl, hB3⟩ | ⟨hp, rfl, hB3⟩⟩
      · rw [hw] at hB3
        obtain ⟨p1, k1, rfl, _⟩ := SlAt.len hB3
        have hJ := hI.trans hI3
        refine WL.nApp ?_
        refine WL.val (Val.moveT rfl) rfl ?_
        refine WL.val (Val.extractS rfl rfl) rfl ?_
        refine WL.val (Val.extractI rfl rfl) rfl ?_
        refine WL.val (Val.assignS rfl) rfl ?_
        refine WL.val (Val.assignI rfl) rfl ?_
        refine WL.nil ?_
        refine WX.thenC ?_
        refine WC.seq ?_
        refine WC.region ?_
        refine WL.val (Val.moveI rfl) rfl ?_
        refine WL.val (Val.neq rfl rfl (bne_eq_false_iff_eq.2 (by omega))) rfl ?_
        refine WL.val (Val.moveB rfl) rfl ?_
        refine WL.gT rfl rfl ?_
        refine WL.val (Val.moveS rfl) rfl ?_
        refine WL.gT rfl rfl ?_
        refine WL.val (Val.moveS rfl) rfl ?_
        refine WL.gT rfl rfl ?_
        refine WL.callE rfl rfl (bytesEq bs bs _ _ _ (hb.mono hJ) hB3) rfl (fun h => ?_) (fun h => absurd rfl h)
        refine WL.gT rfl rfl ?_
        refine WL.val (Val.not rfl) rfl ?_
        refine WL.val (Val.pick rfl) rfl ?_
        refine WL.nil ?_
        refine WX.thenC ?_
        refine WC.condF rfl ?_
        refine WC.skip ?_
        refine WX.thenC ?_
        refine WC.seq ?_
        refine WC.region ?_
        refine WL.val (Val.moveS rfl) rfl ?_
        refine WL.val (Val.assignS rfl) rfl ?_
        refine WL.val (Val.assignI rfl) rfl ?_
        refine WL.nil ?_
        refine WX.thenC ?_
        refine WC.ret ?_
        apply WX.doneP (ks := [])
        case hres => exact RunRes.r2 rfl (ResIs.tmpS rfl) (ResIs.tmpI rfl)
        case hI => first | exact Mem.le.refl _ | assumption
        exact ⟨rfl, x, _, _, rfl, hx.mono hI3, hg⟩
      · exact absurd hok hp
    · cases h0
  · rw [decide_eq_false hd]
    refine WL.nApp ?_
    refine WL.val (Val.not rfl) rfl ?_
    refine WL.nil ?_
    refine WX.thenC ?_
    refine WC.condT rfl ?_
    refine WC.seq ?_
    refine WC.region ?_
    refine WL.val (Val.assignS rfl) rfl ?_
    refine WL.val (Val.assignI rfl) rfl ?_
    refine WL.nil ?_
    refine WX.thenC ?_
    refine WC.ret ?_
    refine WX.thenRet ?_
    apply WX.doneP (ks := [])
    case hres => exact RunRes.r2 rfl (ResIs.tmpS rfl) (ResIs.tmpI rfl)
    case hI => first | exact Mem.le.refl _ | assumption
    exact ⟨rfl, [], _, _, rfl, LsAt.nil _ _, Got.no (z := ([] : List Ent)) (w := lw Ent.w) (ok := okE) hR hd⟩
theorem readCommands_ctr (v : Value) (bs : Bs) (I : Mem) (hN : NeedAt I) (hb : Byt I v bs) (hl : bs.length ≤ 1099511627776) :
    Ctr Tryd.prog 18 [v] I [] (fun v I' L' => L' = [] ∧ ∃ l u r, v = .tuple #[u, vi r] ∧ LsAt Cm.rep I' l u ∧ Got (lw Cm.w) okL [] bs l r) := by
  obtain ⟨a1, c1, rfl, _⟩ := SlAt.len hb
  refine Ctr.intro Tryd.func18 rfl rfl rfl fun E F => ?_
  refine WC.seq ?_
  refine WC.region ?_
  refine WL.val (Val.assignS rfl) rfl ?_
  refine WL.val (Val.assignI rfl) rfl ?_
  refine WL.nil ?_
  refine WX.thenC ?_
  refine WC.seq ?_
  refine WC.region ?_
  refine WL.val (Val.moveS rfl) rfl ?_
  refine WL.callP [] rfl rfl (reader_ctr _ bs _ hb hl) rfl ?_
  rintro _ I1 _ hI1 ⟨c, b, sv', rfl, rfl, hB⟩
  refine WL.nApp ?_
  refine WL.val (Val.assignP rfl) rfl ?_
  refine WL.nil ?_
  refine WX.thenC ?_
  refine WC.seq ?_
  refine WC.region ?_
  refine WL.val (Val.moveP rfl) rfl ?_
  refine WL.val (Val.moveP rfl) rfl ?_
  refine WL.val Val.makeFuncL rfl ?_
  refine WL.callP [2, 1] rfl rfl (listCm 25 (ptr c) c b Cm.w Cm.plain (fun sv b2 b1 bs I hN h => command_ctr c b sv b2 b1 bs I hN h) 4096 (by decide) (by decide) sv' false false bs _ (hN.mono hI1) hB) rfl ?_
  rintro _ I2 _ hI2 ⟨x, sv2, d2, d1, bs2, hx, rfl, hB2, hR⟩
  have hx0 := hx
  obtain ⟨b0, r0, rfl⟩ := hx.sl
  have hI := hI1.trans hI2
  refine WL.nApp ?_
  refine WL.val (Val.assignS rfl) rfl ?_
  refine WL.nil ?_
  refine WX.thenC ?_
  refine WC.seq ?_
  refine WC.seq ?_
  refine WC.region ?_
  refine WL.val (Val.moveP rfl) rfl ?_
  refine WL.callP [1, 1] rfl rfl (done_ctr c b sv2 d2 d1 bs2 _ hB2) rfl ?_
  rintro _ _ _ - ⟨rfl, rfl, rfl⟩
  by_cases hd : st d1 d2 bs2 = some []
  · rw [decide_eq_true hd]
    refine WL.nApp ?_
    refine WL.val (Val.not rfl) rfl ?_
    refine WL.nil ?_
    refine WX.thenC ?_
    refine WC.condF rfl ?_
    refine WC.skip ?_
    refine WX.thenC ?_
    refine WC.seq ?_
    refine WC.region ?_
    refine WL.val (Val.moveS rfl) rfl ?_
    refine WL.val (Val.assignS rfl) rfl ?_
    refine WL.val (Val.assignI rfl) rfl ?_
    refine WL.nil ?_
    refine WX.thenC ?_
    refine WC.ret ?_
    apply WX.doneP (ks := [])
    case hres => exact RunRes.r2 rfl (ResIs.tmpS rfl) (ResIs.tmpI rfl)
    case hI => first | exact Mem.le.refl _ | assumption
    exact ⟨rfl, x, _, _, rfl, hx, Got.yes (z := ([] : List Cm)) (w := lw Cm.w) (ok := okL) hR hd⟩
  · rw [decide_eq_false hd]
    refine WL.nApp ?_
    refine WL.val (Val.not rfl) rfl ?_
    refine WL.nil ?_
    refine WX.thenC ?_
    refine WC.condT rfl ?_
    refine WC.seq ?_
    refine WC.region ?_
    refine WL.val (Val.assignS rfl) rfl ?_
    refine WL.val (Val.assignI rfl) rfl ?_
    refine WL.nil ?_
    refine WX.thenC ?_
    refine WC.ret ?_
    refine WX.thenRet ?_
    apply WX.doneP (ks := [])
    case hres => exact RunRes.r2 rfl (ResIs.tmpS rfl) (ResIs.tmpI rfl)
    case hI => first | exact Mem.le.refl _ | assumption
    exact ⟨rfl, [], _, _, rfl, LsAt.nil _ _, Got.no (z := ([] : List Cm)) (w := lw Cm.w) (ok := okL) hR hd⟩
/-- bytes.Clone: in new memory of one's own. -/
theorem clone_own (a : Option Addr) (cap : Nat) (bs : Bs) (I : Mem) (hb : Byt I (.slice a bs.length cap) bs) (hl : bs.length ≤ 1099511627776) :
    Ctr Tryd.prog 75 [.slice a bs.length cap] I [] (OwnB bs) := by
  refine Ctr.intro Tryd.func75 rfl rfl rfl fun E F => ?_
  refine WC.seq ?_
  refine WC.region ?_
  refine WL.val (Val.assignS rfl) rfl ?_
  refine WL.nil ?_
  refine WX.thenC ?_
  refine WC.seq ?_
  refine WC.seq ?_
  refine WC.region ?_
  refine WL.val (Val.moveS rfl) rfl ?_
  refine WL.val (Val.eqlNil rfl) rfl ?_
  cases a with
  | none =>
    have : bs = [] := by
      obtain ⟨a', c', h1, h2, ⟨h3, h4⟩ | ⟨b, off, h3, h4⟩⟩ := hb
      · exact List.eq_nil_of_length_eq_zero h3
      · cases h1; cases h3
    subst this
    refine WL.slNil 5 1 ?_
    refine WL.nApp ?_
    refine WL.nil ?_
    refine WX.thenC ?_
    refine WC.condT rfl ?_
    refine WC.seq ?_
    refine WC.region ?_
    refine WL.val (Val.assignS rfl) rfl ?_
    refine WL.nil ?_
    refine WX.thenC ?_
    refine WC.ret ?_
    refine WX.thenRet ?_
    apply WX.doneP (ks := [0])
    case hres => exact RunRes.r1 rfl (ResIs.tmpS rfl)
    case hI => first | exact Mem.le.refl _ | assumption
    rfl
  | some a =>
    refine WL.nil ?_
    refine WX.thenC ?_
    refine WC.condF rfl ?_
    refine WC.skip ?_
    refine WX.thenC ?_
    refine WC.seq ?_
    refine WC.region ?_
    (refine WL.buildSlice (by with_unfolding_all exact rfl) rfl (by with_unfolding_all exact rfl) rfl ?_; intro _)
    refine WL.nApp ?_
    refine WL.val (Val.moveS rfl) rfl ?_
    refine WL.boxSl (xs := []) (sz := 1) (n := 0) 1 rfl rfl (by decide) ?_
    refine WL.appB (bs := []) 1 rfl rfl rfl hb rfl (by simpa using hl) rfl fun a2 q2 => ?_
    refine WL.nSet ?_
    refine WL.val (Val.assignS rfl) rfl ?_
    refine WL.nil ?_
    refine WX.thenC ?_
    refine WC.ret ?_
    apply WX.doneP (ks := [0])
    case hres => exact RunRes.r1 rfl (ResIs.tmpS rfl)
    case hI => first | exact Mem.le.refl _ | assumption
    rfl
theorem bytes_own (o ty : Nat) (sv : Value) (tl : List Value) (bs : Bs) (I : Mem) (hl : bs.length ≤ 1099511627776) :
    Ctr Tryd.prog 44 [ptr o] I [box o ty (sv :: tl), sl 5 1 sv bs.length (bs.map byt)] (OwnB bs) := by
  refine Ctr.intro Tryd.func44 rfl rfl rfl fun E F => ?_
  refine WC.seq ?_
  refine WC.region ?_
  refine WL.val (Val.assignS rfl) rfl ?_
  refine WL.nil ?_
  refine WX.thenC ?_
  refine WC.seq ?_
  refine WC.region ?_
  refine WL.val (Val.moveP rfl) rfl ?_
  refine WL.val (Val.nilCheckP rfl) rfl ?_
  refine WL.val (Val.fldAddr rfl) rfl ?_
  refine WL.val (Val.loadS rfl (Rd.own1 1 rfl rfl)) rfl ?_
  refine WL.freeze 2 rfl fun I1 hI1 hA => ?_
  obtain ⟨a, cap, rfl, hc⟩ := SlAt.len (show SlAt I1 sv bs.length (bs.map byt) from hA)
  refine WL.callB rfl rfl (clone_own a cap bs _ hA hl) rfl fun a2 q2 I2 hI2 => ?_
  refine WL.nApp ?_
  refine WL.val (Val.assignS rfl) rfl ?_
  refine WL.nil ?_
  refine WX.thenC ?_
  refine WC.ret ?_
  have hI := hI1.trans hI2
  apply WX.doneP (ks := [1])
  case hres => exact RunRes.r1 rfl (ResIs.tmpS rfl)
  case hI => first | exact Mem.le.refl _ | assumption
  rfl
theorem commands_ctr (l : List Cm) (v : Value) (I : Mem) (hN : NeedAt I) (hv : LsAt Cm.rep I l v) (h4 : l.length ≤ 4096) (hl : (lw Cm.w l).length ≤ 1099511627776) :
    Ctr Tryd.prog 17 [v] I [] (Put (∀ c ∈ l, c.plain) (lw Cm.w l)) := by
  obtain ⟨a1, q1, rfl⟩ := hv.sl
  have hlen : (lw Cm.w l).length = (eInt (l.length : Int)).length + ((l.map Cm.w).flatten).length := List.length_append
  have hB : ∀ k, (eInt (l.length : Int) ++ lk Cm.w l k).length ≤ 1099511627776 := fun k => by
    have h1 := lk_le Cm.w l k
    rw [List.length_append]
    omega
  refine Ctr.intro Tryd.func17 rfl rfl rfl fun E F => ?_
  refine WC.seq ?_
  refine WC.region ?_
  refine WL.val (Val.assignS rfl) rfl ?_
  refine WL.val (Val.assignI rfl) rfl ?_
  refine WL.nil ?_
  refine WX.thenC ?_
  refine WC.seq ?_
  refine WC.seq ?_
  refine WC.region ?_
  refine WL.val (Val.moveS rfl) rfl ?_
  refine WL.val (Val.len rfl) rfl ?_
  refine WL.val (Val.gtr rfl rfl (decide_eq_false (by omega))) rfl ?_
  refine WL.nil ?_
  refine WX.thenC ?_
  refine WC.condF rfl ?_
  refine WC.skip ?_
  refine WX.thenC ?_
  refine WC.seq ?_
  refine WC.region ?_
  (refine WL.alloc rfl ?_; intro _)
  refine WL.nApp ?_
  refine WL.nil ?_
  refine WX.thenC ?_
  refine WC.seq ?_
  refine WC.region ?_
  refine WL.val (Val.moveS rfl) rfl ?_
  refine WL.val (Val.len rfl) rfl ?_
  rename_i g
  refine WL.slNil 5 1 ?_
  refine WL.nApp ?_
  refine WL.callP [1, 1] rfl rfl (outInt g 89 (.slice none 0 0) [] [] l.length _ ⟨by omega, by omega⟩ (by simp)) rfl ?_
  rintro _ J _ - ⟨rfl, rfl, sv1, rfl⟩
  refine WL.nApp ?_
  refine WL.callP [1, 1] rfl rfl (bytes_own g 89 sv1 [] ([] ++ eInt (l.length : Int)) _ (by have := hB 0; simp at this ⊢; omega)) rfl ?_
  intro v2 I2 L2 hI2 hL2
  obtain rfl : L2 = [sl 5 1 v2 ([] ++ eInt (l.length : Int)).length (([] ++ eInt (l.length : Int)).map byt)] := hL2
  refine WL.nApp ?_
  refine WL.slOpen 1 rfl ?_
  rintro a2 q2 rfl
  refine WL.val (Val.assignS rfl) rfl ?_
  refine WL.nil ?_
  refine WX.thenC ?_
  refine WC.seq ?_
  refine WC.seq ?_
  refine WC.region ?_
  refine WL.val (Val.moveS rfl) rfl ?_
  refine WL.val (Val.len rfl) rfl ?_
  refine WL.val (Val.moveI rfl) rfl ?_
  refine WL.nil ?_
  refine WX.thenC ?_
  refine WC.block ?_
  refine WC.loop (fun n ρ' I' L' => ∃ k : Nat, ∃ a cap, n = l.length - k ∧ k ≤ l.length ∧ J.le I' ∧ ρ' 5 = .slice a (eInt (l.length : Int) ++ lk Cm.w l k).length cap ∧ ρ' 17 = .slice a1 l.length q1 ∧ ρ' 18 = vi l.length ∧ ρ' 19 = vi k ∧
      L' = [F, sl 5 1 (.slice a (eInt (l.length : Int) ++ lk Cm.w l k).length cap) (eInt (l.length : Int) ++ lk Cm.w l k).length ((eInt (l.length : Int) ++ lk Cm.w l k).map byt)] ∧ ∀ c ∈ l.take k, c.plain)
    l.length ⟨0, _, _, rfl, by omega, hI2, by rw [lk_zero, List.append_nil]; rfl, rfl, rfl, rfl, by rw [lk_zero, List.append_nil]; rfl, fun x hx => by simp at hx⟩ ?_
  rintro n ρ' I5 L' ⟨k, a5, q5, rfl, hkl, hI5, h5, h17, h18, h19, rfl, hall⟩
  rw [← upd_self h19, ← upd_self h18, ← upd_self h17, ← upd_self h5]
  clear h19 h18 h17 h5
  by_cases hkn : k < l.length
  · obtain ⟨b, off, cap', cs, he, ⟨e1, t1, u1, d1, r1, rfl, hi⟩, hA⟩ := (hv.mono hI5).get k hkn
    cases he
    have hsn := all_snoc (P := fun c => c.plain) hall hkn
    have hs2 : eInt (l.length : Int) ++ lk Cm.w l (k + 1) = eInt (l.length : Int) ++ lk Cm.w l k ++ l[k].w := by rw [lk_succ Cm.w l k hkn, List.append_assoc]
    have hb1 := hB (k + 1)
    rw [hs2] at hb1
    have hmem : l[k] ∈ l := List.getElem_mem hkn
    generalize hx : l[k] = x at *
    obtain ⟨a0, c0, b1, r1, b2, r2, b3, r3, b4, r4, rfl, rfl, rfl, rfl, rfl⟩ := hi.sl
    have hbx := hb1
    rw [List.length_append] at hbx
    refine WC.seq ?_
    refine WC.region ?_
    refine WL.val (Val.lss rfl rfl (decide_eq_true (by omega))) rfl ?_
    refine WL.nil ?_
    refine WX.thenC ?_
    refine WC.seq ?_
    refine WC.condT rfl ?_
    refine WC.skip ?_
    refine WX.thenC ?_
    refine WC.seq ?_
    refine WC.block ?_
    refine WC.seq ?_
    refine WC.region ?_
    refine WL.val (Val.indexAddr rfl rfl (by omega) (by omega)) rfl ?_
    refine WL.val (Val.loadI rfl (by assumption) rfl) rfl ?_
    (refine WL.alloc rfl ?_; intro _)
    refine WL.nApp ?_
    refine WL.stA 2 rfl rfl rfl rfl ?_
    refine WL.nil ?_
    refine WX.thenC ?_
    refine WC.seq ?_
    refine WC.region ?_
    refine WL.val (Val.ldO 2 rfl rfl rfl) rfl ?_
    refine WL.callP [] rfl rfl (command2_ctr x _ _ _ _ _ _ (hN.mono hI5) hi (by omega)) rfl ?_
    rintro _ I6 _ hI6 ⟨rfl, v1, r, rfl, ⟨hp, rfl, hB6⟩ | ⟨hp, rfl, hB6⟩⟩
    · obtain ⟨p1, k1, rfl, _⟩ := SlAt.len hB6
      refine WL.nApp ?_
      refine WL.val (Val.moveT rfl) rfl ?_
      refine WL.val (Val.extractS rfl rfl) rfl ?_
      refine WL.val (Val.extractI rfl rfl) rfl ?_
      refine WL.val (Val.assignS rfl) rfl ?_
      refine WL.val (Val.assignI rfl) rfl ?_
      refine WL.nil ?_
      refine WX.thenC ?_
      refine WC.seq ?_
      refine WC.seq ?_
      refine WC.region ?_
      refine WL.val (Val.moveI rfl) rfl ?_
      refine WL.val (Val.neq rfl rfl (bne_eq_false_iff_eq.2 (by omega))) rfl ?_
      refine WL.nil ?_
      refine WX.thenC ?_
      refine WC.condF rfl ?_
      refine WC.skip ?_
      refine WX.thenC ?_
      refine WC.region ?_
      refine WL.val (Val.moveS rfl) rfl ?_
      refine WL.val (Val.moveS rfl) rfl ?_
      refine WL.appB 1 rfl rfl rfl hB6 rfl hb1 rfl fun a7 q7 => ?_
      refine WL.nSet ?_
      refine WL.val (Val.assignS rfl) rfl ?_
      refine WL.nil ?_
      refine WX.inNormal ?_
      refine WX.thenC ?_
      refine WC.region ?_
      refine WL.val (Val.add rfl rfl (wrap_i64 (by omega) (by omega))) rfl ?_
      refine WL.val (Val.moveI rfl) rfl ?_
      refine WL.nil ?_
      refine WX.conv (fun w h => h.sub [0, 0] rfl) ?_
      exact WX.thenK (WK.round (l.length - (k + 1)) (by omega) ⟨k + 1, _, _, rfl, by omega, hI5.trans hI6, by rw [hs2]; rfl, rfl, rfl, rfl, by rw [hs2], hsn hp⟩)
    · obtain ⟨p1, k1, rfl, _⟩ := SlAt.len hB6
      refine WL.nApp ?_
      refine WL.val (Val.moveT rfl) rfl ?_
      refine WL.val (Val.extractS rfl rfl) rfl ?_
      refine WL.val (Val.extractI rfl rfl) rfl ?_
      refine WL.val (Val.assignS rfl) rfl ?_
      refine WL.val (Val.assignI rfl) rfl ?_
      refine WL.nil ?_
      refine WX.thenC ?_
      refine WC.seq ?_
      refine WC.seq ?_
      refine WC.region ?_
      refine WL.val (Val.moveI rfl) rfl ?_
      refine WL.val (Val.neq rfl rfl (bne_iff_ne.2 (by omega))) rfl ?_
      refine WL.nil ?_
      refine WX.thenC ?_
      refine WC.condT rfl ?_
      refine WC.seq ?_
      refine WC.region ?_
      refine WL.val (Val.moveI rfl) rfl ?_
      refine WL.val (Val.assignS rfl) rfl ?_
      refine WL.val (Val.assignI rfl) rfl ?_
      refine WL.nil ?_
      refine WX.thenC ?_
      refine WC.ret ?_
      refine WX.thenRet ?_
      refine WX.inRet ?_
      refine WX.thenRet ?_
      refine WX.thenRet ?_
      refine WX.inRet ?_
      refine WX.thenRet ?_
      have hJ := hI5.trans hI6
      apply WX.doneP (ks := [])
      case hres => exact RunRes.r2 rfl (ResIs.tmpS rfl) (ResIs.tmpI rfl)
      case hI => first | exact Mem.le.refl _ | assumption
      exact ⟨rfl, _, _, rfl, .inr ⟨fun h => hp (h x hmem), rfl, Byt.nil _⟩⟩
  · skip
    refine WC.seq ?_
    refine WC.region ?_
    refine WL.val (Val.lss rfl rfl (decide_eq_false (by omega))) rfl ?_
    refine WL.nil ?_
    refine WX.thenC ?_
    refine WC.seq ?_
    refine WC.condF rfl ?_
    refine WC.exit ?_
    refine WX.thenExit ?_
    refine WX.thenExit ?_
    refine WX.inHit ?_
    refine WX.thenC ?_
    refine WC.seq ?_
    refine WC.region ?_
    refine WL.val (Val.moveS rfl) rfl ?_
    refine WL.val (Val.assignS rfl) rfl ?_
    refine WL.val (Val.assignI rfl) rfl ?_
    refine WL.nil ?_
    refine WX.thenC ?_
    refine WC.ret ?_
    refine WX.freeze 1 rfl fun I6 hI6 hA6 => ?_
    have hJ := hI5.trans hI6
    apply WX.doneP (ks := [])
    case hres => exact RunRes.r2 rfl (ResIs.tmpS rfl) (ResIs.tmpI rfl)
    case hI => first | exact Mem.le.refl _ | assumption
    obtain rfl : k = l.length := by omega
    rw [List.take_length] at hall
    have hA7 : Byt I6 _ (eInt (l.length : Int) ++ lk Cm.w l l.length) := hA6
    have hlw : eInt (l.length : Int) ++ lk Cm.w l l.length = lw Cm.w l := by rw [lk_all]; rfl
    rw [hlw] at hA7
    exact ⟨rfl, _, _, by rw [hlw], .inl ⟨hall, rfl, hA7⟩⟩
abbrev aw : Cm := ⟨3, 1, 0, 2, 0, 0, 0, [], Atr.z, Sg.z, Pt.z⟩
theorem aw_plain : aw.plain := ⟨by decide, by decide, rfl, ⟨by decide, by decide⟩, i64_0, ⟨by decide, by decide⟩⟩
theorem aw_w : aw.w = [6, 2, 0, 4] := by
  show eInt 3 ++ (eInt 1 ++ eInt 0 ++ eInt 2) = _
  rw [eInt_small (n := 3) (by decide) (by decide), eInt_small (n := 1) (by decide) (by decide), eInt_small (n := 0) (by decide) (by decide), eInt_small (n := 2) (by decide) (by decide)]
  rfl
theorem awake_ctr (I : Mem) (hN : NeedAt I) : Ctr Tryd.prog 8 [] I [] (fun v I' L' => L' = [] ∧ v = .bool true) := by
  refine Ctr.intro Tryd.func8 rfl rfl rfl fun E F => ?_
  refine WC.seq ?_
  refine WC.region ?_
  refine WL.val (Val.assignB rfl) rfl ?_
  refine WL.nil ?_
  refine WX.thenC ?_
  refine WC.seq ?_
  refine WC.region ?_
  refine WL.val (Val.build (cs := (vi 3 :: vi 1 :: vi 0 :: vi 2 :: vi 0 :: vi 0 :: vi 0 :: .slice none 0 0 :: vi 0 :: vi 0 :: vi 0 :: vi 0 :: vi 0 :: vi 0 :: vi 0 :: byt 0 :: byt 0 :: byt 0 :: byt 0 :: vi 0 :: vi 0 :: vi 0 :: vi 0 :: .slice none 0 0 :: vi 0 :: byt 0 :: byt 0 :: byt 0 :: byt 0 :: vi 0 :: vi 0 :: vi 0 :: vi 0 :: .slice none 0 0 :: vi 0 :: vi 0 :: vi 0 :: .slice none 0 0 :: vi 0 :: vi 0 :: vi 0 :: .slice none 0 0 :: vi 0 :: vi 0 :: vi 0 :: vi 0 :: vi 0 :: vi 0 :: vi 0 :: vi 0 :: vi 0 :: [])) rfl) rfl ?_
  skip
  refine WL.callP [] rfl rfl (command2_ctr aw (.slice none 0 0) (.slice none 0 0) (.slice none 0 0) (.slice none 0 0) (.slice none 0 0) _ hN ⟨⟨by decide, by decide⟩, ⟨by decide, by decide⟩, i64_0, ⟨by decide, by decide⟩, i64_0, i64_0, i64_0, LsAt.nil _ _, Atr.z_at I, Sg.z_ok, Pt.z_ok⟩ (by rw [aw_w]; decide)) rfl ?_
  rintro _ I2 _ hI2 ⟨rfl, v1, r, rfl, ⟨hp, rfl, hB⟩ | ⟨hp, rfl, hB⟩⟩
  · rw [aw_w] at hB
    obtain ⟨p1, k1, rfl, _⟩ := SlAt.len hB
    refine WL.nApp ?_
    refine WL.val (Val.moveT rfl) rfl ?_
    refine WL.val (Val.extractS rfl rfl) rfl ?_
    refine WL.val (Val.extractI rfl rfl) rfl ?_
    refine WL.val (Val.assignS rfl) rfl ?_
    refine WL.val (Val.assignI rfl) rfl ?_
    refine WL.nil ?_
    refine WX.thenC ?_
    refine WC.seq ?_
    refine WC.region ?_
    refine WL.val (Val.moveS rfl) rfl ?_
    refine WL.callP [] rfl rfl (readCommand_ctr _ [6, 2, 0, 4] _ (hN.mono hI2) hB (by decide)) rfl ?_
    rintro _ I3 _ hI3 ⟨rfl, x, e, t, u, d, q, r, rfl, hx, hg⟩
    obtain ⟨rfl, _, _, hu⟩ | ⟨rfl, _, hno⟩ := hg
    · obtain rfl := hu aw aw_plain aw_w
      obtain ⟨b0, r0, b1, r1, b2, r2, b3, r3, b4, r4, rfl, rfl, rfl, rfl, rfl⟩ := hx.sl
      have hI := hI2.trans hI3
      refine WL.nApp ?_
      refine WL.val (Val.moveT rfl) rfl ?_
      refine WL.val (Val.extractA rfl rfl) rfl ?_
      refine WL.val (Val.extractI rfl rfl) rfl ?_
      (refine WL.alloc rfl ?_; intro _)
      refine WL.nApp ?_
      refine WL.stA 1 rfl rfl rfl rfl ?_
      refine WL.val (Val.assignI rfl) rfl ?_
      refine WL.nil ?_
      refine WX.thenC ?_
      refine WC.seq ?_
      refine WC.region ?_
      refine WL.val (Val.moveI rfl) rfl ?_
      refine WL.val (Val.eql rfl rfl (beq_iff_eq.2 (by omega))) rfl ?_
      refine WL.val (Val.moveB rfl) rfl ?_
      refine WL.gT rfl rfl ?_
      refine WL.val (Val.moveI rfl) rfl ?_
      refine WL.gT rfl rfl ?_
      refine WL.val (Val.eql rfl rfl (beq_iff_eq.2 (by omega))) rfl ?_
      refine WL.val (Val.pick rfl) rfl ?_
      refine WL.val (Val.moveB rfl) rfl ?_
      refine WL.gT rfl rfl ?_
      refine WL.val (Val.moveS rfl) rfl ?_
      refine WL.gT rfl rfl ?_
      refine WL.val (Val.str rfl (hB.mono hI3)) rfl ?_
      refine WL.gT rfl rfl ?_
      refine WL.val (Val.eqlStrT (b := [6, 2, 0, 4]) rfl rfl rfl) rfl ?_
      refine WL.val (Val.pick rfl) rfl ?_
      refine WL.val (Val.moveB rfl) rfl ?_
      refine WL.gT rfl rfl ?_
      refine WL.val (Val.fldAddr rfl) rfl ?_
      refine WL.gT rfl rfl ?_
      refine WL.val (Val.loadS rfl (Rd.own1 1 rfl rfl)) rfl ?_
      refine WL.gT rfl rfl ?_
      refine WL.val (Val.eql rfl rfl rfl) rfl ?_
      refine WL.val (Val.pick rfl) rfl ?_
      refine WL.val (Val.moveB rfl) rfl ?_
      refine WL.gT rfl rfl ?_
      refine WL.val (Val.fldAddr rfl) rfl ?_
      refine WL.gT rfl rfl ?_
      refine WL.val (Val.loadS rfl (Rd.own1 1 rfl rfl)) rfl ?_
      refine WL.gT rfl rfl ?_
      refine WL.val (Val.eql rfl rfl rfl) rfl ?_
      refine WL.val (Val.pick rfl) rfl ?_
      refine WL.val (Val.moveB rfl) rfl ?_
      refine WL.gT rfl rfl ?_
      refine WL.val (Val.fldAddr rfl) rfl ?_
      refine WL.gT rfl rfl ?_
      refine WL.val (Val.loadS rfl (Rd.own1 1 rfl rfl)) rfl ?_
      refine WL.gT rfl rfl ?_
      refine WL.val (Val.eql rfl rfl rfl) rfl ?_
      refine WL.val (Val.pick rfl) rfl ?_
      refine WL.val (Val.assignB rfl) rfl ?_
      refine WL.nil ?_
      refine WX.thenC ?_
      refine WC.ret ?_
      apply WX.doneP (ks := [])
      case hres => exact RunRes.r1 rfl (ResIs.tmpB rfl)
      case hI => first | exact Mem.le.refl _ | assumption
      exact ⟨rfl, rfl⟩
    · exact absurd aw_w (hno aw aw_plain)
  · exact absurd aw_plain hp
end Go.Proofs.YtfdeckdongonnaaDoor
