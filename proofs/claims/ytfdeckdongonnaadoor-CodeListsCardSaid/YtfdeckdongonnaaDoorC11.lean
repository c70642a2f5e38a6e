/-
  Code, the walks: writing.
-/
import Derived.Test.YtfdeckdongonnaaDoorC2
namespace Go.Cd
open Go.Sl
class RepLen {α : Type} (R : Rep α) (sz : outParam Nat) : Prop where
  len : ∀ {I : Mem} {x : α} {cs : List Value}, R I x cs → cs.length = sz
instance : RepLen Int.rep 1 := ⟨fun h => by rw [h.1]; rfl⟩
instance : RepLen Stp.rep 5 := ⟨fun h => by rw [h.1]; rfl⟩
instance : RepLen Sg.rep 7 := ⟨fun h => by rw [h.1]; rfl⟩
instance : RepLen Ent.rep 37 := ⟨fun ⟨_, _, _, _, h, _⟩ => by rw [h]; rfl⟩
instance : RepLen Cm.rep 51 := ⟨fun ⟨_, _, _, _, _, h, _⟩ => by rw [h]; rfl⟩
theorem flat_get {α : Type} {R : α → List Value → Prop} {sz : Nat} (hlen : ∀ x cs, R x cs → cs.length = sz) : ∀ {l : List α} {css : List (List Value)} (h : All2 R l css) (k : Nat) (hk : k < l.length),
    ∃ cs, R l[k] cs ∧ (css.flatten.drop (k * sz)).take sz = cs
  | [], _, _, k, hk => by simp at hk
  | x :: l, [], h, k, hk => h.elim
  | x :: l, cs :: css, ⟨h1, h2⟩, 0, hk => ⟨cs, h1, by simp [← hlen x cs h1]⟩
  | x :: l, cs :: css, ⟨h1, h2⟩, k + 1, hk => by
    obtain ⟨cs', hR, hd⟩ := flat_get hlen h2 k (by simpa using hk)
    refine ⟨cs', hR, ?_⟩
    rw [List.flatten_cons, show (k + 1) * sz = cs.length + k * sz by rw [hlen x cs h1, Nat.add_mul, Nat.one_mul, Nat.add_comm], ← List.drop_drop, List.drop_left]
    exact hd
/-- The k-th thing of a list. -/
theorem LsAt.get {α : Type} {R : Rep α} {sz : Nat} [hL : RepLen R sz] {I : Mem} {l : List α} {v : Value} (h : LsAt R I l v) (k : Nat) (hk : k < l.length) :
    ∃ b off cap cs, v = .slice (some ⟨b, off, none⟩) l.length cap ∧ R I l[k] cs ∧ At I b (off + (k : Int).toNat * sz) cs := by
  obtain ⟨css, ⟨a, cap, rfl, hc, ⟨h0, _⟩ | ⟨b, off, rfl, hA⟩⟩, hall⟩ := h
  · omega
  · obtain ⟨cs, hR, hd⟩ := flat_get (fun x cs h => hL.len h) hall k hk
    exact ⟨b, off, cap, cs, rfl, hR, by
      have := (hA.drop (k * sz)).take sz
      rw [hd] at this
      exact this⟩
end Go.Cd
namespace Go.Sl
variable {Γ : Cx} {ops : Array Oper} {rest : List Oper} {ρ : Nat → Value} {I : Mem} {L : List HP} {Q : Post}
theorem WL.freezeBox {g e : Nat} {xs : List Value} {L' : List HP} (k : Nat) (hL : L[k]? = some (Sl.box g e xs)) [hE : EraL L k L'] (next : ∀ I', I.le I' → At I' g 0 xs → WL Γ ops rest ρ I' L' Q) : WL Γ ops rest ρ I L Q := fun a w ha hw => by
  have h := hw.freezeK (b := g) (o := .cells xs.toArray e (0, 0)) hL
  rw [hE.is] at h
  exact next _ h.2 ⟨xs.toArray, e, (0, 0), by simp [Mem.ins], fun j v hj => by simpa using hj⟩ a w ha h.1
end Go.Sl
namespace Go.Proofs.YtfdeckdongonnaaDoor
open Go.Sl Go.Cd
set_option maxRecDepth 100000
set_option maxHeartbeats 4000000
set_option linter.unusedVariables false
attribute [local irreducible] WC WL WX WK WA WAK Val Ctr RunRes ResIs Rd At sl box pt Exit.then Exit.inBlock bodyPost Code.wp wpList
def allI64 : List Int → Prop
  | [] => True
  | a :: l => I64 a ∧ allI64 l
theorem litAll : ∀ {l : List Int}, allI64 l → ∀ I, All2 (Int.rep I) l (l.map fun x => [vi x])
  | [], _, _ => trivial
  | _ :: _, ⟨h1, h2⟩, I => ⟨⟨rfl, h1⟩, litAll h2 I⟩
theorem litFlat : ∀ l : List Int, (l.map fun x => [vi x]).flatten = l.map vi
  | [] => rfl
  | a :: l => by rw [List.map_cons, List.flatten_cons, litFlat l]; rfl
/-- A literal's numbers. -/
theorem litInts {I : Mem} {g : Nat} (l : List Int) (hA : At I g 0 (l.map vi)) (h : allI64 l) (hm : l.length ≤ maxLen := by simp [maxLen]) : LsAt Int.rep I l (.slice (some ⟨g, 0, none⟩) l.length l.length) :=
  ⟨l.map fun x => [vi x], ⟨_, _, rfl, ⟨Nat.le_refl _, hm⟩, .inr ⟨g, 0, rfl, by rw [litFlat]; exact hA⟩⟩, litAll h I⟩
/-- A writer: the thing itself (o), its bytes. -/
abbrev outL (o : Nat) (sv : Value) (bad : Bool) (bs : Bs) : List HP := [box o 116 [sv, .bool bad], sl 5 1 sv bs.length (bs.map byt)]
/-- What is written: w; is something that can't be: not ok. -/
def WrP (o : Nat) (w : Bs) (bad : Bool) (bs : Bs) : Value → Mem → List HP → Prop := fun _ I' L' => ∃ sv', L' = outL o sv' bad (bs ++ w)
theorem eInts_app (a b : List Int) : eInts (a ++ b) = eInts a ++ eInts b := by unfold eInts; rw [List.map_append, List.flatten_append]
theorem eInts_one (a : Int) : eInts [a] = eInt a := by simp [eInts]
theorem leb_pos (z : Nat) : 1 ≤ (leb z).length := by unfold leb; split <;> simp
theorem eInts_len : ∀ l : List Int, l.length ≤ (eInts l).length
  | [] => by simp
  | a :: l => by
    have h1 := eInts_len l
    have h2 := leb_pos (zig a)
    have : eInts (a :: l) = eInt a ++ eInts l := by unfold eInts; rw [List.map_cons, List.flatten_cons]
    rw [this, List.length_append, List.length_cons]
    unfold eInt
    omega
theorem ints_ctr (o : Nat) (v : Value) (l : List Int) (sv : Value) (bad : Bool) (bs : Bs) (I : Mem) (hv : LsAt Int.rep I l v) (hl : (bs ++ eInts l).length ≤ 1099511627776) :
    Ctr Tryd.prog 67 [ptr o, v] I (outL o sv bad bs) (WrP o (eInts l) bad bs) := by
  obtain ⟨a, cap, rfl⟩ := hv.sl
  refine Ctr.intro Tryd.func67 rfl rfl rfl fun E F => ?_
  refine WC.seq ?_
  refine WC.region ?_
  refine WL.val (Val.moveS rfl) rfl ?_
  refine WL.val (Val.len rfl) rfl ?_
  refine WL.val (Val.moveI rfl) rfl ?_
  refine WL.nil ?_
  refine WX.thenC ?_
  refine WC.block ?_
  refine WC.loop (fun m ρ' I' L' => ∃ k : Nat, ∃ sv', m = l.length - k ∧ k ≤ l.length ∧ I' = I ∧ ρ' 0 = ptr o ∧ ρ' 6 = .slice a l.length cap ∧ ρ' 7 = vi l.length ∧ ρ' 8 = vi k ∧ L' = F :: outL o sv' bad (bs ++ eInts (l.take k)))
    l.length ⟨0, sv, rfl, by omega, rfl, rfl, rfl, rfl, rfl, by simp [eInts]⟩ ?_
  rintro m ρ' I0 L' ⟨k, sv', rfl, hk, rfl, h0, h6, h7, h8, rfl⟩
  rw [← upd_self h8, ← upd_self h7, ← upd_self h6, ← upd_self h0]
  clear h8 h7 h6 h0
  by_cases hkn : k < l.length
  · obtain ⟨b, off, cap', cs, he, ⟨rfl, hi⟩, hA⟩ := hv.get k hkn
    cases he
    have htk : eInts (l.take (k + 1)) = eInts (l.take k) ++ eInt l[k] := by
      rw [List.take_succ_eq_append_getElem hkn, eInts_app, eInts_one]
    have hll := eInts_len l
    have hlm : (bs ++ eInts l).length = bs.length + (eInts l).length := List.length_append
    have hbd : (bs ++ eInts (l.take k)).length ≤ 1099511627776 := by
      have : eInts l = eInts (l.take k) ++ eInts (l.drop k) := by
        have := congrArg eInts (List.take_append_drop k l).symm
        rw [this, eInts_app]
      rw [this] at hl
      simp at hl ⊢
      omega
    refine WC.seq ?_
    refine WC.region ?_
    refine WL.val (Val.lss rfl rfl (decide_eq_true (by omega))) rfl ?_
    refine WL.nil ?_
    refine WX.thenC ?_
    refine WC.seq ?_
    refine WC.condT rfl ?_
    refine WC.skip ?_
    refine WX.thenC ?_
    refine WC.seq ?_
    refine WC.block ?_
    refine WC.seq ?_
    refine WC.region ?_
    refine WL.val (Val.indexAddr rfl rfl (by omega) (by omega)) rfl ?_
    refine WL.val (Val.loadS rfl (Rd.imm (by assumption))) rfl ?_
    refine WL.val (Val.assignI rfl) rfl ?_
    refine WL.nil ?_
    refine WX.thenC ?_
    refine WC.region ?_
    refine WL.val (Val.moveP rfl) rfl ?_
    refine WL.val (Val.nilCheckP rfl) rfl ?_
    refine WL.val (Val.fldAddr rfl) rfl ?_
    refine WL.val (Val.moveI rfl) rfl ?_
    refine WL.callP [1, 1] rfl rfl (outInt o 116 sv' [.bool bad] _ l[k] _ hi hbd) rfl ?_
    rintro _ _ _ - ⟨rfl, rfl, sv2, rfl⟩
    refine WL.nApp ?_
    refine WL.nil ?_
    refine WX.inNormal ?_
    refine WX.thenC ?_
    refine WC.region ?_
    refine WL.val (Val.add rfl rfl (wrap_i64 (by omega) (by omega))) rfl ?_
    refine WL.val (Val.moveI rfl) rfl ?_
    refine WL.nil ?_
    exact WX.thenK (WK.round (l.length - (k + 1)) (by omega) ⟨k + 1, sv2, rfl, by omega, rfl, rfl, rfl, rfl, rfl, by rw [htk, ← List.append_assoc]⟩)
  · skip
    refine WC.seq ?_
    refine WC.region ?_
    refine WL.val (Val.lss rfl rfl (decide_eq_false (by omega))) rfl ?_
    refine WL.nil ?_
    refine WX.thenC ?_
    refine WC.seq ?_
    refine WC.condF rfl ?_
    refine WC.exit ?_
    refine WX.thenExit ?_
    refine WX.thenExit ?_
    refine WX.inHit ?_
    apply WX.doneN (ks := [0, 0])
    case hres => exact RunRes.r0 rfl
    case hp => rfl
    case hI => first | exact Mem.le.refl _ | assumption
    have : k = l.length := by omega
    subst this
    exact ⟨sv', by rw [List.take_length]⟩
theorem opoint_ctr (o : Nat) (p : Pt) (sv : Value) (bad : Bool) (bs : Bs) (I : Mem) (hp : p.ok) (hl : (bs ++ p.w).length ≤ 1099511627776) :
    Ctr Tryd.prog 73 [ptr o, .agg p.cs.toArray] I (outL o sv bad bs) (WrP o p.w bad bs) := by
  refine Ctr.intro Tryd.func73 rfl rfl rfl fun E F => ?_
  refine WC.seq ?_
  refine WC.region ?_
  (refine WL.box rfl rfl ?_; intro _)
  refine WL.nApp ?_
  refine WL.nil ?_
  refine WX.thenC ?_
  refine WC.region ?_
  refine WL.val (Val.moveP rfl) rfl ?_
  refine WL.val (Val.fldAddr rfl) rfl ?_
  refine WL.val (Val.loadS rfl (Rd.own1 3 rfl rfl)) rfl ?_
  refine WL.val (Val.fldAddr rfl) rfl ?_
  refine WL.val (Val.loadS rfl (Rd.own1 3 rfl rfl)) rfl ?_
  (refine WL.buildSlice (by with_unfolding_all exact rfl) rfl (by with_unfolding_all exact rfl) rfl ?_; intro _)
  refine WL.nApp ?_
  rename_i g
  refine WL.freezeBox (xs := [vi p.x, vi p.y]) 4 rfl fun I1 hI1 hA => ?_
  have hw : p.w = eInts [p.x, p.y] := by simp [Pt.w, eInts]
  rw [hw] at hl ⊢
  refine WL.callP [1, 1] rfl rfl (ints_ctr o (.slice (some ⟨g, 0, none⟩) 2 2) [p.x, p.y] sv bad bs _ (litInts _ hA ⟨hp.1, hp.2, trivial⟩) hl) rfl ?_
  rintro _ I2 _ hI2 ⟨sv2, rfl⟩
  refine WL.nApp ?_
  refine WL.nil ?_
  have hI : I.le I2 := hI1.trans hI2
  apply WX.doneN (ks := [1, 1])
  case hres => exact RunRes.r0 rfl
  case hp => rfl
  case hI => first | exact Mem.le.refl _ | assumption
  exact ⟨sv2, rfl⟩
theorem omatrix_ctr (o : Nat) (m : Mtx) (sv : Value) (bad : Bool) (bs : Bs) (I : Mem) (hp : m.ok) (hl : (bs ++ m.w).length ≤ 1099511627776) :
    Ctr Tryd.prog 69 [ptr o, .agg m.cs.toArray] I (outL o sv bad bs) (WrP o m.w bad bs) := by
  refine Ctr.intro Tryd.func69 rfl rfl rfl fun E F => ?_
  refine WC.seq ?_
  refine WC.region ?_
  (refine WL.box rfl rfl ?_; intro _)
  refine WL.nApp ?_
  refine WL.nil ?_
  refine WX.thenC ?_
  refine WC.region ?_
  refine WL.val (Val.moveP rfl) rfl ?_
  refine WL.val (Val.fldAddr rfl) rfl ?_
  refine WL.val (Val.loadS rfl (Rd.own1 3 rfl rfl)) rfl ?_
  refine WL.val (Val.fldAddr rfl) rfl ?_
  refine WL.val (Val.loadS rfl (Rd.own1 3 rfl rfl)) rfl ?_
  refine WL.val (Val.fldAddr rfl) rfl ?_
  refine WL.val (Val.loadS rfl (Rd.own1 3 rfl rfl)) rfl ?_
  refine WL.val (Val.fldAddr rfl) rfl ?_
  refine WL.val (Val.loadS rfl (Rd.own1 3 rfl rfl)) rfl ?_
  refine WL.val (Val.fldAddr rfl) rfl ?_
  refine WL.val (Val.loadS rfl (Rd.own1 3 rfl rfl)) rfl ?_
  refine WL.val (Val.fldAddr rfl) rfl ?_
  refine WL.val (Val.loadS rfl (Rd.own1 3 rfl rfl)) rfl ?_
  (refine WL.buildSlice (by with_unfolding_all exact rfl) rfl (by with_unfolding_all exact rfl) rfl ?_; intro _)
  refine WL.nApp ?_
  rename_i g
  refine WL.freezeBox (xs := [vi m.a, vi m.b, vi m.c, vi m.d, vi m.e, vi m.f]) 4 rfl fun I1 hI1 hA => ?_
  have hw : m.w = eInts [m.a, m.b, m.c, m.d, m.e, m.f] := by simp [Mtx.w, eInts]
  rw [hw] at hl ⊢
  refine WL.callP [1, 1] rfl rfl (ints_ctr o (.slice (some ⟨g, 0, none⟩) 6 6) [m.a, m.b, m.c, m.d, m.e, m.f] sv bad bs _ (litInts _ hA ⟨hp.1, hp.2.1, hp.2.2.1, hp.2.2.2.1, hp.2.2.2.2.1, hp.2.2.2.2.2, trivial⟩) hl) rfl ?_
  rintro _ I2 _ hI2 ⟨sv2, rfl⟩
  refine WL.nApp ?_
  refine WL.nil ?_
  have hI : I.le I2 := hI1.trans hI2
  apply WX.doneN (ks := [1, 1])
  case hres => exact RunRes.r0 rfl
  case hp => rfl
  case hI => first | exact Mem.le.refl _ | assumption
  exact ⟨sv2, rfl⟩
/-- (*out).count -/
theorem ocount_ctr (o : Nat) (n most : Int) (sv : Value) (bad : Bool) (bs : Bs) (I : Mem) (hn : I64 n) (hl : bs.length ≤ 1099511627776) :
    Ctr Tryd.prog 78 [ptr o, vi n, vi most] I (outL o sv bad bs) (WrP o (eInt n) (bad || decide (most < n)) bs) := by
  refine Ctr.intro Tryd.func78 rfl rfl rfl fun E F => ?_
  cases bad
  · skip
    refine WC.seq ?_
    refine WC.region ?_
    refine WL.val (Val.moveP rfl) rfl ?_
    refine WL.val (Val.moveP rfl) rfl ?_
    refine WL.val (Val.nilCheckP rfl) rfl ?_
    refine WL.val (Val.fldAddr rfl) rfl ?_
    refine WL.val (Val.loadS rfl (Rd.own1 1 rfl rfl)) rfl ?_
    refine WL.val (Val.moveB rfl) rfl ?_
    refine WL.gT rfl rfl ?_
    refine WL.val (Val.moveI rfl) rfl ?_
    refine WL.gT rfl rfl ?_
    refine WL.val (Val.moveI rfl) rfl ?_
    refine WL.gT rfl rfl ?_
    refine WL.val (Val.gtr rfl rfl rfl) rfl ?_
    refine WL.val (Val.pick rfl) rfl ?_
    refine WL.val (Val.nilCheckP rfl) rfl ?_
    refine WL.val (Val.fldAddr rfl) rfl ?_
    refine WL.stB 1 rfl rfl rfl rfl ?_
    refine WL.nil ?_
    refine WX.thenC ?_
    refine WC.region ?_
    refine WL.val (Val.moveP rfl) rfl ?_
    refine WL.val (Val.nilCheckP rfl) rfl ?_
    refine WL.val (Val.fldAddr rfl) rfl ?_
    refine WL.val (Val.moveI rfl) rfl ?_
    refine WL.callP [1, 1] rfl rfl (outInt o 116 sv [_] bs n _ hn hl) rfl ?_
    rintro _ _ _ - ⟨rfl, rfl, sv2, rfl⟩
    refine WL.nApp ?_
    refine WL.nil ?_
    apply WX.doneN (ks := [0, 0])
    case hres => exact RunRes.r0 rfl
    case hp => rfl
    case hI => first | exact Mem.le.refl _ | assumption
    exact ⟨sv2, rfl⟩
  · skip
    refine WC.seq ?_
    refine WC.region ?_
    refine WL.val (Val.moveP rfl) rfl ?_
    refine WL.val (Val.moveP rfl) rfl ?_
    refine WL.val (Val.nilCheckP rfl) rfl ?_
    refine WL.val (Val.fldAddr rfl) rfl ?_
    refine WL.val (Val.loadS rfl (Rd.own1 1 rfl rfl)) rfl ?_
    refine WL.val (Val.moveB rfl) rfl ?_
    refine WL.gF rfl rfl rfl rfl ?_
    refine WL.gF rfl rfl rfl rfl ?_
    refine WL.gF rfl rfl rfl rfl ?_
    refine WL.val (Val.pick rfl) rfl ?_
    refine WL.val (Val.nilCheckP rfl) rfl ?_
    refine WL.val (Val.fldAddr rfl) rfl ?_
    refine WL.stB 1 rfl rfl rfl rfl ?_
    refine WL.nil ?_
    refine WX.thenC ?_
    refine WC.region ?_
    refine WL.val (Val.moveP rfl) rfl ?_
    refine WL.val (Val.nilCheckP rfl) rfl ?_
    refine WL.val (Val.fldAddr rfl) rfl ?_
    refine WL.val (Val.moveI rfl) rfl ?_
    refine WL.callP [1, 1] rfl rfl (outInt o 116 sv [_] bs n _ hn hl) rfl ?_
    rintro _ _ _ - ⟨rfl, rfl, sv2, rfl⟩
    refine WL.nApp ?_
    refine WL.nil ?_
    apply WX.doneN (ks := [0, 0])
    case hres => exact RunRes.r0 rfl
    case hp => rfl
    case hI => first | exact Mem.le.refl _ | assumption
    exact ⟨sv2, rfl⟩
end Go.Proofs.YtfdeckdongonnaaDoor
