/-
  Tree, plain law: who has kids is a group, whatever becomes of a tree; each node is the kid of its parent at its place, and one deeper.
-/
import Derived.Test.YtfdeckdongonnabN2
import Derived.Test.YtfdeckdongonnabB3
import Derived.Test.YtfdeckdongonnabB2
namespace Go.Tr
open Go.Sl Go.Ls
namespace Nd
mutual
def All (C : Int → Bool → List Nd → Prop) : Nd → Prop | .mk j g ks => C j g ks ∧ Alls C ks
def Alls (C : Int → Bool → List Nd → Prop) : List Nd → Prop | [] => True | k :: ks => All C k ∧ Alls C ks
end
variable {C C' : Int → Bool → List Nd → Prop}
theorem Alls_iff : ∀ {l : List Nd}, Alls C l ↔ ∀ k ∈ l, All C k
  | [] => by simp [Alls]
  | x :: l => by rw [Alls, Alls_iff (l := l)]; simp
theorem Alls.app {a b : List Nd} (h : Alls C a) (k : Alls C b) : Alls C (a ++ b) := Alls_iff.2 fun x hx => (List.mem_append.1 hx).elim (Alls_iff.1 h x) (Alls_iff.1 k x)
theorem Alls.take {l : List Nd} (h : Alls C l) (n : Nat) : Alls C (l.take n) := Alls_iff.2 fun x hx => Alls_iff.1 h x (List.mem_of_mem_take hx)
theorem Alls.drop {l : List Nd} (h : Alls C l) (n : Nat) : Alls C (l.drop n) := Alls_iff.2 fun x hx => Alls_iff.1 h x (List.mem_of_mem_drop hx)
theorem All.kids : ∀ {n : Nd}, All C n → Alls C n.kids
  | .mk _ _ _, h => by rw [All] at h; exact h.2
theorem All.self : ∀ {n : Nd}, All C n → C n.id n.grp n.kids
  | .mk _ _ _, h => by rw [All] at h; exact h.1
theorem All.find {i : Int} (n : Nd) : ∀ m, All C n → Nd.find i n = some m → All C m := by
  refine Nd.rec (motive_1 := fun n => ∀ m, All C n → Nd.find i n = some m → All C m) (motive_2 := fun l => ∀ m, Alls C l → finds i l = some m → All C m) ?_ ?_ ?_ n
  · intro j g ks ih m h hf
    rw [Nd.find] at hf
    by_cases hj : j = i
    · rw [if_pos hj] at hf; cases hf; exact h
    · rw [if_neg hj] at hf; exact ih m h.kids hf
  · intro m _ hf; simp [finds] at hf
  · intro k ks h1 h2 m h hf
    rw [Alls] at h
    rw [finds] at hf
    cases hk : Nd.find i k with
    | some x => rw [hk] at hf; cases hf; exact h1 _ h.1 hk
    | none => rw [hk] at hf; exact h2 _ h.2 hf
theorem All.with_ {i : Int} {ks : List Nd} (hks : Alls C' ks) (h1 : ∀ g ks0, C i g ks0 → C' i g ks) (h2 : ∀ j g (ks0 ks1 : List Nd), ks0.length = ks1.length → C j g ks0 → C' j g ks1) (n : Nd) : All C n → All C' (Nd.with_ i ks n) := by
  refine Nd.rec (motive_1 := fun n => All C n → All C' (Nd.with_ i ks n)) (motive_2 := fun l => Alls C l → Alls C' (withs i ks l)) ?_ ?_ ?_ n
  · intro j g ks0 ih h
    rw [All] at h
    rw [Nd.with_]
    by_cases hj : j = i
    · subst hj
      rw [if_pos rfl, All]
      exact ⟨h1 _ _ h.1, hks⟩
    · rw [if_neg hj, All]
      exact ⟨h2 _ _ _ _ (withs_len i ks ks0).symm h.1, ih h.2⟩
  · intro _; rw [withs, Alls]; trivial
  · intro k l ha hb h
    rw [Alls] at h
    rw [withs, Alls]
    exact ⟨ha h.1, hb h.2⟩
theorem All.mono (h : ∀ j g ks, C j g ks → C' j g ks) (n : Nd) : All C n → All C' n := by
  refine Nd.rec (motive_1 := fun n => All C n → All C' n) (motive_2 := fun l => Alls C l → Alls C' l) ?_ ?_ ?_ n
  · intro j g ks ih hn
    rw [All] at hn ⊢
    exact ⟨h _ _ _ hn.1, ih hn.2⟩
  · intro _; rw [Alls]; trivial
  · intro k l ha hb hn
    rw [Alls] at hn ⊢
    exact ⟨ha hn.1, hb hn.2⟩
theorem All.and (n : Nd) : All C n → All C' n → All (fun j g ks => C j g ks ∧ C' j g ks) n := by
  refine Nd.rec (motive_1 := fun n => All C n → All C' n → All (fun j g ks => C j g ks ∧ C' j g ks) n) (motive_2 := fun l => Alls C l → Alls C' l → Alls (fun j g ks => C j g ks ∧ C' j g ks) l) ?_ ?_ ?_ n
  · intro j g ks ih hn hm
    rw [All] at hn hm ⊢
    exact ⟨⟨hn.1, hm.1⟩, ih hn.2 hm.2⟩
  · intro _ _; rw [Alls]; trivial
  · intro k l ha hb hn hm
    rw [Alls] at hn hm ⊢
    exact ⟨ha hn.1 hm.1, hb hn.2 hm.2⟩
/-- Who has kids is a group. -/
abbrev Gp (n : Nd) : Prop := All (fun _ g ks => ks ≠ [] → g = true) n
/-- Who has this ID is a group. -/
abbrev Ga (i : Int) (n : Nd) : Prop := All (fun j g _ => j = i → g = true) n
theorem Ga.of {i : Int} (n : Nd) : n.order.Nodup → (∀ m, Nd.find i n = some m → m.grp = true) → Ga i n := by
  refine Nd.rec (motive_1 := fun n => n.order.Nodup → (∀ m, Nd.find i n = some m → m.grp = true) → Ga i n) (motive_2 := fun l => (orders l).Nodup → (∀ m, finds i l = some m → m.grp = true) → Alls (fun j g _ => j = i → g = true) l) ?_ ?_ ?_ n
  · intro j g ks ih ho hf
    rw [order, List.nodup_cons] at ho
    rw [Ga, All]
    refine ⟨fun e => ?_, ih ho.2 fun m hm => ?_⟩
    · exact hf (.mk j g ks) (by rw [Nd.find, if_pos e])
    · by_cases e : j = i
      · rw [finds_none i ks (e ▸ ho.1)] at hm; cases hm
      · exact hf m (by rw [Nd.find, if_neg e]; exact hm)
  · intro _ _; rw [Alls]; trivial
  · intro k l ha hb ho hf
    rw [orders, List.nodup_append] at ho
    rw [Alls]
    refine ⟨ha ho.1 fun m hm => hf m (by rw [finds, hm]; rfl), hb ho.2.1 fun m hm => hf m ?_⟩
    have hi : i ∈ orders l := by
      refine Decidable.byContradiction fun hn => ?_
      rw [finds_none i l hn] at hm; cases hm
    rw [finds, find_none i k fun hk => ho.2.2 i hk i hi rfl]
    exact hm
theorem Gp.with_ {i : Int} {ks : List Nd} {n : Nd} (h : Gp n) (ha : Ga i n) (hk : Alls (fun _ g ks => ks ≠ [] → g = true) ks) : Gp (Nd.with_ i ks n) :=
  All.with_ (C := fun j g ks => (ks ≠ [] → g = true) ∧ (j = i → g = true)) hk (fun g ks0 hc _ => hc.2 rfl) (fun j g ks0 ks1 hl hc hne => hc.1 fun e => hne (List.length_eq_zero_iff.1 (by rw [← hl, e]; rfl))) n (All.and n h ha)
theorem Gp.with0 {i : Int} {n : Nd} (h : Gp n) : Gp (Nd.with_ i [] n) :=
  All.with_ (C := fun _ g ks => ks ≠ [] → g = true) (C' := fun _ g ks => ks ≠ [] → g = true) (by rw [Alls]; trivial) (fun g ks0 hc hne => absurd rfl hne) (fun j g ks0 ks1 hl hc hne => hc fun e => hne (List.length_eq_zero_iff.1 (by rw [← hl, e]; rfl))) n h
theorem Ga.with_ {i j : Int} {ks : List Nd} {n : Nd} (h : Ga j n) (hk : Alls (fun x g _ => x = j → g = true) ks) : Ga j (Nd.with_ i ks n) :=
  All.with_ hk (fun g ks0 hc => hc) (fun j g ks0 ks1 hl hc => hc) n h
theorem Gp.zero : Gp zero := by rw [Gp, Nd.zero, All, Alls]; exact ⟨fun h => absurd rfl h, trivial⟩
theorem Gp.wrong (top : Nd) (n : Nd) : ∀ (seen : List Int) (d : Int), (wrong top n seen d).1 = 0 → Gp n := by
  refine Nd.rec (motive_1 := fun n => ∀ (seen : List Int) (d : Int), (Nd.wrong top n seen d).1 = 0 → Gp n)
    (motive_2 := fun l => ∀ (seen : List Int) (d : Int), (wrongs top l seen d).1 = 0 → Alls (fun _ g ks => ks ≠ [] → g = true) l) ?_ ?_ ?_ n
  · intro i g ks ih seen d h
    simp only [Nd.wrong] at h
    by_cases h1 : i < 1 ∨ 2147483648 < i
    · rw [if_pos h1] at h; exact absurd h (by show ¬ (30 : Int) = 0; decide)
    rw [if_neg h1] at h
    by_cases h2 : (Nd.find i top).isSome = true
    · rw [if_pos h2] at h; exact absurd h (by show ¬ (32 : Int) = 0; decide)
    rw [if_neg h2] at h
    by_cases h3 : i ∈ seen
    · rw [if_pos h3] at h; exact absurd h (by show ¬ (32 : Int) = 0; decide)
    rw [if_neg h3] at h
    by_cases h4 : g = false ∧ 0 < ks.length
    · rw [if_pos h4] at h; exact absurd h (by show ¬ (33 : Int) = 0; decide)
    rw [if_neg h4] at h
    by_cases h5 : 64 < d
    · rw [if_pos h5] at h; exact absurd h (by show ¬ (35 : Int) = 0; decide)
    rw [if_neg h5] at h
    rw [Gp, All]
    refine ⟨fun hne => ?_, ih _ _ h⟩
    cases g with
    | true => rfl
    | false => exact absurd ⟨rfl, List.length_pos_iff.2 hne⟩ h4
  · intro seen d _; rw [Alls]; trivial
  · intro k ks h1 h2 seen d h
    simp only [wrongs] at h
    by_cases hk : (Nd.wrong top k seen d).1 = 0
    · rw [if_pos hk] at h
      rw [Alls]
      exact ⟨h1 _ _ hk, h2 _ _ h⟩
    · rw [if_neg hk] at h; exact absurd h hk
theorem Gp.fits {top n : Nd} {d : Int} (h : fits top n d = 0) : Gp n := by
  rw [Nd.fits] at h
  by_cases h1 : 65536 < (top.size : Int) - 1 + n.size
  · rw [if_pos h1] at h; cases h
  · rw [if_neg h1] at h; exact Gp.wrong top n [] d h
variable {top : Nd}
theorem Gp.found (h : Gp top) {i : Int} {m : Nd} (hf : Nd.find i top = some m) : Gp m := All.find top m h hf
theorem Gp.add (h : Gp top) (ho : top.order.Nodup) (p ix : Int) (n : Nd) : Gp (Nd.add top p ix n).1 := by
  rw [Nd.add]
  split
  · exact h
  · rename_i m hm
    have hmp := (h.found hm).kids
    split
    · exact h
    · rename_i hg
      split
      · exact h
      · split
        · exact h
        · rename_i hf
          have hf0 : Nd.fits top n (Nd.depth p top + 1) = 0 := Decidable.of_not_not hf
          refine h.with_ (Ga.of top ho fun m' hm' => ?_) (Alls.app (hmp.take _) ?_)
          · rw [hm] at hm'; cases hm'; simpa using hg
          · rw [Alls]; exact ⟨Gp.fits hf0, hmp.drop _⟩
theorem Gp.cutd (h : Gp top) (ho : top.order.Nodup) {q : Int} {p : Nd} (hp : Nd.find q top = some p) (k : Nat) : Gp (Nd.with_ q (p.kids.take k ++ p.kids.drop (k + 1)) top) := by
  have hpg := h.found hp
  by_cases hk : p.kids = []
  · rw [hk]; simp only [List.take_nil, List.drop_nil, List.append_nil]; exact h.with0
  · exact h.with_ (Ga.of top ho fun m' hm' => by rw [hp] at hm'; cases hm'; exact hpg.self hk) ((hpg.kids.take _).app (hpg.kids.drop _))
theorem Gp.remove (h : Gp top) (ho : top.order.Nodup) (i : Int) : Gp (Nd.remove top i).1 ∧ Gp (Nd.remove top i).2.1 := by
  rw [Nd.remove]
  split
  · exact ⟨h, Gp.zero⟩
  · split
    · exact ⟨h, Gp.zero⟩
    · rename_i n hn
      split
      · exact ⟨h, Gp.zero⟩
      · split
        · exact ⟨h, Gp.zero⟩
        · rename_i q k _ p hp
          exact ⟨h.cutd ho hp _, h.found hn⟩
theorem Ga.found {i j : Int} {m : Nd} (h : Ga j top) (hf : Nd.find i top = some m) : Ga j m := All.find top m h hf
theorem Ga.remove {j : Int} (h : Ga j top) (i : Int) : Ga j (Nd.remove top i).1 := by
  rw [Nd.remove]
  split
  · exact h
  · split
    · exact h
    · split
      · exact h
      · split
        · exact h
        · rename_i q k _ p hp
          have := (h.found hp).kids
          exact h.with_ ((this.take _).app (this.drop _))
theorem Gp.getD (h : Gp top) (i : Int) : Gp ((Nd.find i top).getD Nd.zero) := by
  cases hf : Nd.find i top with
  | none => exact Gp.zero
  | some m => exact h.found hf
theorem Gp.move (h : Gp top) (ho : top.order.Nodup) (i p ix : Int) : Gp (Nd.move top i p ix).1 := by
  obtain ⟨h1, h2⟩ := h.remove ho i
  rw [Nd.move]
  split
  · exact h
  · split
    · exact h
    · rename_i m hm
      split
      · exact h
      · rename_i hg
        split
        · exact h
        · split
          · exact h
          · split
            · exact h
            · have hk := (h1.getD p).kids
              refine h1.with_ (Ga.remove (Ga.of top ho fun m' hm' => ?_) i) ((hk.take _).app ?_)
              · rw [hm] at hm'; cases hm'; simpa using hg
              · rw [Alls]; exact ⟨h2, hk.drop _⟩
theorem Gp.wrap (h : Gp top) (ho : top.order.Nodup) (i p ix c : Int) : Gp (Nd.wrap top i p ix c).1 := by
  rw [Nd.wrap]
  split
  · exact h
  · rename_i m hm
    have hmp := (h.found hm).kids
    split
    · exact h
    · rename_i hg
      split
      · exact h
      · split
        · exact h
        · split
          · exact h
          · refine h.with_ (Ga.of top ho fun m' hm' => ?_) (Alls.app (hmp.take _) ?_)
            · rw [hm] at hm'; cases hm'; simpa using hg
            · rw [Alls, All]; exact ⟨⟨fun _ => rfl, (hmp.drop _).take _⟩, hmp.drop _⟩
theorem Gp.unwrap (h : Gp top) (ho : top.order.Nodup) (i : Int) (hh : Nd.Has top i) : Gp (Nd.unwrap top i).1 := by
  obtain ⟨h1, h2⟩ := h.remove ho i
  rw [Nd.unwrap]
  split
  · exact h
  · rename_i he
    obtain ⟨k, p, hk, hp, hkp⟩ := remove_ok top i hh (Decidable.of_not_not he)
    split
    · exact h
    · rw [hp, Option.getD_some]
      have hpg := h.found hp
      refine h.with_ (Ga.of top ho fun m' hm' => ?_) ((hpg.kids.take _).app (h2.kids.app (hpg.kids.drop _)))
      rw [hp] at hm'; cases hm'
      exact hpg.self fun e => by rw [e] at hkp; exact Nat.not_lt_zero _ hkp
end Nd
section
variable {A : Ar} {top : Nd}
/-- Each node is the kid of its parent at its place, and one deeper; and its parent is a group. -/
theorem Abs.apart (h : Abs A top) (hg : Nd.Gp top) {i : Int} (hi : i ∈ top.order.tail) : ∃ (y : Nd) (k : Nat) (hk : k < y.kids.length), Nd.whr i top = some (y.id, (k : Int)) ∧ Nd.find y.id top = some y ∧ (y.kids[k]).id = i ∧ Nd.depth i top = Nd.depth y.id top + 1 ∧ y.grp = true := by
  have ho := h.od
  rw [Nd.order_eq, List.nodup_cons, h.id0] at ho
  rw [Nd.order_eq, List.tail_cons] at hi
  rcases h.cases i with ⟨_, hn⟩ | ⟨q, _, hq, hid, _⟩
  · exact absurd (by rw [Nd.order_eq]; exact List.mem_cons_of_mem _ hi) hn
  have hi0 : i ≠ 0 := fun e => ho.1 (e ▸ hi)
  have hq0 : q ≠ 0 := fun e => hi0 (by rw [← hid]; exact (h.ne0 hq).2 e)
  obtain ⟨y, k, yp, ny, n', R, RO, hk, hl, f, hkn, _, hn', _, hw, hf, _⟩ := h.node hq hq0
  obtain ⟨hql, hyl, hpar, _, _⟩ := hl
  obtain ⟨l, hc, hd, _⟩ := h.up hq
  have hy : y ∈ post A 0 top := f.mem (self_post A y ny)
  obtain ⟨l', hc', hd', _⟩ := h.up hy
  have := hc.eq (Ch.up hql hpar hc')
  subst this
  rw [hid] at hw hd hn'
  rw [f.id] at hd'
  refine ⟨ny, k, hk, hw, hf, by rw [hkn]; exact hn', ?_, (hg.found hf).self fun e => by rw [e] at hk; exact Nat.not_lt_zero _ hk⟩
  rw [hd, hd', List.length_cons]; omega
end
end Go.Tr

/-
  Tree: TreeApart.
-/

namespace Go.Sl
section
variable {Γ : Cx} {ρ : Nat → Value} {I : Mem} {L : List HP} {Q : Post}
/-- The ways of a block meet behind it. -/
theorem WC.cutB {id : Nat} {x y : Code} (mid : (Nat → Value) → Mem → List HP → Prop) (h : WC Γ x ρ I L (Exit.inBlock id (Exit.then (fun a w => ∃ ρ' I' L', mid ρ' I' L' ∧ Loc Γ.n Γ.ds ρ' a ∧ Sat Γ.E w I' L') Q)))
    (k : ∀ ρ' I' L', mid ρ' I' L' → WC Γ y ρ' I' L' Q) : WC Γ x ρ I L (Exit.inBlock id (Exit.then (y.wp Γ.P Q) Q)) := fun a w ha hw => wp_mono (h a w ha hw) fun e a w hq => by
  have key : (∃ ρ' I' L', mid ρ' I' L' ∧ Loc Γ.n Γ.ds ρ' a ∧ Sat Γ.E w I' L') → y.wp Γ.P Q a w := fun ⟨ρ', I', L', hm, ha, hw⟩ => k ρ' I' L' hm a w ha hw
  cases e with
  | normal => exact key hq
  | exit j =>
    simp only [Exit.inBlock] at hq ⊢
    split
    · rename_i hj; rw [if_pos hj] at hq; exact key hq
    · rename_i hj; rw [if_neg hj] at hq; exact hq
  | _ => exact hq
end
end Go.Sl
namespace Go.Tr
open Go.Sl Go.Ls
def seenI (l : List Int) : Int → Option Value := fun k => if k ∈ l then some (.bool true) else none
theorem seenI_snoc (l : List Int) (i : Int) : seenI (l ++ [i]) = Sl.put (seenI l) i (.bool true) := by
  funext k
  unfold seenI Sl.put
  by_cases h : k = i
  · subst h; simp
  · simp [h]
end Go.Tr
namespace Go.Proofs.Ytfdeckdongonnab
open Go.Sl Go.Ls Go.Tr
set_option maxRecDepth 100000
set_option maxHeartbeats 8000000
set_option linter.unusedVariables false
attribute [local irreducible] WC WL WX WK WA WAK Val Ctr RunRes ResIs Rd At sl box pt Exit.then Exit.inBlock bodyPost Code.wp wpList
theorem tApart (l : List Opn) (lv : Value) (I : Mem) (hlv : LsAt Opn.rep I l lv) :
    Ctr Try.prog 6 [lv] I [] (KeepR [] fun v _ => v = .bool true) := by
  obtain ⟨a1, c1, rfl⟩ := hlv.sl
  refine Ctr.intro Try.func6 rfl rfl rfl fun E F => ?_
  refine WC.seq ?_
  refine WC.region ?_
  refine WL.val (Val.assignB rfl) rfl ?_
  refine WL.nil ?_
  refine WX.thenC ?_
  refine WC.seq ?_
  refine WC.region ?_
  refine WL.callP [] rfl rfl (tNew _) rfl ?_
  rintro _ I1 _ hI1 ⟨rfl, b, mb, cg, rfl, rfl⟩
  have hA0 : Abs (Ar.fresh b mb cg) (.mk 0 true []) := Abs.fresh b mb cg
  have hb0 : (Ar.fresh b mb cg).b = b := rfl
  generalize Ar.fresh b mb cg = A0 at *
  subst hb0
  have hG0 : Nd.Gp (.mk 0 true []) := by rw [Nd.Gp, Nd.All, Nd.Alls]; exact ⟨fun _ => rfl, trivial⟩
  refine WL.nApp ?_
  refine WL.val (Val.assignP rfl) rfl ?_
  refine WL.nil ?_
  refine WX.thenC ?_
  refine WC.seq ?_
  refine WC.seq ?_
  refine WC.region ?_
  refine WL.val (Val.moveP rfl) rfl ?_
  refine WL.val (Val.eqlNilP rfl) rfl ?_
  refine WL.val (Val.moveB rfl) rfl ?_
  refine WL.gT rfl rfl ?_
  refine WL.val (Val.moveS rfl) rfl ?_
  refine WL.gT rfl rfl ?_
  refine WL.callE rfl rfl (rSmall l _ _ hlv) rfl (fun hs => ?_) (fun hs => ?_)
  case refine_2 =>
    refine WL.gT rfl rfl ?_
    refine WL.val (Val.not rfl) rfl ?_
    refine WL.val (Val.pick rfl) rfl ?_
    refine WL.nil ?_
    refine WX.thenC ?_
    refine WC.condT rfl ?_
    refine WC.seq ?_
    refine WC.region ?_
    refine WL.val (Val.moveP rfl) rfl ?_
    refine WL.val (Val.neqNilP rfl) rfl ?_
    refine WL.val (Val.moveB rfl) rfl ?_
    refine WL.gT rfl rfl ?_
    refine WL.callP [] rfl rfl (tAwake _) rfl ?_
    rintro _ I2 _ hI2 ⟨rfl, rfl⟩
    refine WL.nApp ?_
    refine WL.val (Val.pick rfl) rfl ?_
    refine WL.val (Val.assignB rfl) rfl ?_
    refine WL.nil ?_
    refine WX.thenC ?_
    refine WC.ret ?_
    refine WX.thenRet ?_
    apply WX.doneP (ks := [])
    case hres => exact RunRes.r1 rfl (ResIs.tmpB rfl)
    case hI => first | exact Mem.le.refl _ | assumption
    exact ⟨rfl, rfl⟩
  have hsl := hs.1
  refine WL.gT rfl rfl ?_
  refine WL.val (Val.not rfl) rfl ?_
  refine WL.val (Val.pick rfl) rfl ?_
  refine WL.nil ?_
  refine WX.thenC ?_
  refine WC.condF rfl ?_
  refine WC.skip ?_
  refine WX.thenC ?_
  refine WC.seq ?_
  refine WC.seq ?_
  refine WC.region ?_
  refine WL.val (Val.moveS rfl) rfl ?_
  refine WL.val (Val.len rfl) rfl ?_
  refine WL.val (Val.moveI rfl) rfl ?_
  refine WL.nil ?_
  refine WX.thenC ?_
  refine WC.block ?_
  refine WC.loop (fun m ρ' I' L' => ∃ (k : Nat) (A : Ar) (top : Nd), m = l.length - k ∧ k ≤ l.length ∧ I1.le I' ∧ ρ' 3 = ptr A.b ∧ ρ' 28 = .slice a1 l.length c1 ∧ ρ' 29 = vi l.length ∧ ρ' 30 = vi k ∧ L' = F :: A.hp ∧ Abs A top ∧ Nd.Gp top)
    l.length ⟨0, A0, _, rfl, by omega, hI1, rfl, rfl, rfl, rfl, rfl, hA0, hG0⟩ ?_
  rintro m ρ' I' L' ⟨k, A, top, rfl, hk, hI', r3, r28, r29, r30, rfl, hA, hG⟩
  rw [← upd_self r30, ← upd_self r29, ← upd_self r28, ← upd_self r3]
  clear r30 r29 r28 r3
  by_cases hkn : k < l.length
  case neg =>
    have hkl : k = l.length := by omega
    subst hkl
    refine WC.seq ?_
    refine WC.region ?_
    refine WL.val (Val.lss rfl rfl (decide_eq_false (by omega))) rfl ?_
    refine WL.nil ?_
    refine WX.thenC ?_
    refine WC.seq ?_
    refine WC.condF rfl ?_
    refine WC.exit ?_
    refine WX.thenExit ?_
    refine WX.thenExit ?_
    refine WX.inHit ?_
    refine WX.thenC ?_
    refine WC.seq ?_
    refine WC.region ?_
    refine WL.callP [] rfl rfl (tAwake _) rfl ?_
    rintro _ I2 _ hI2 ⟨rfl, rfl⟩
    refine WL.nApp ?_
    have hJ := hI'.trans hI2
    refine WL.val (Val.assignB rfl) rfl ?_
    refine WL.nil ?_
    refine WX.thenC ?_
    refine WC.ret ?_
    apply WX.doneP (ks := [])
    case hres => exact RunRes.r1 rfl (ResIs.tmpB rfl)
    case hI => first | exact Mem.le.refl _ | assumption
    exact ⟨rfl, rfl⟩
  obtain ⟨b, off, cap', cs, he, hR, hAt⟩ := (hlv.mono hI').get k hkn
  cases he
  have hsm := hs.2 _ (List.getElem_mem hkn)
  obtain ⟨nv, rfl, k64, d64, p64, i64, c64, hn⟩ := hR
  obtain ⟨na, nc, rfl⟩ := hn.sl
  have hhas := hA.has l[k].id
  have ho := hA.od
  refine WC.seq ?_
  refine WC.region ?_
  refine WL.val (Val.lss rfl rfl (decide_eq_true (by omega))) rfl ?_
  refine WL.nil ?_
  refine WX.thenC ?_
  refine WC.seq ?_
  refine WC.condT rfl ?_
  refine WC.skip ?_
  refine WX.thenC ?_
  refine WC.seq ?_
  refine WC.block ?_
  refine WC.seq ?_
  refine WC.region ?_
  refine WL.val (Val.indexAddr rfl rfl (by omega) (by omega)) rfl ?_
  refine WL.val (Val.loadI rfl (by assumption) rfl) rfl ?_
  (refine WL.alloc rfl ?_; intro _)
  refine WL.nApp ?_
  refine WL.stA 6 rfl rfl rfl rfl ?_
  refine WL.nil ?_
  refine WX.thenC ?_
  refine WC.seq ?_
  refine WC.seq ?_
  refine WC.region ?_
  refine WL.val (Val.fldAddr rfl) rfl ?_
  refine WL.val (Val.loadS rfl (Rd.own1 6 rfl rfl)) rfl ?_
  refine WL.nil ?_
  refine WX.thenC ?_
  refine WC.block ?_
  refine WC.seq ?_
  refine WC.region ?_
  refine WL.val (Val.eql rfl rfl rfl) rfl ?_
  refine WL.val (Val.assignB rfl) rfl ?_
  refine WL.nil ?_
  refine WX.thenC ?_
  rename_i g5
  refine WC.cutB (fun ρ' I2 L' => ∃ (B : Ar) (top' : Nd), I1.le I2 ∧ ρ' 3 = ptr B.b ∧ ρ' 28 = .slice (some ⟨b, off, none⟩) l.length c1 ∧ ρ' 29 = vi l.length ∧ ρ' 30 = vi k ∧ L' = F :: B.hp ∧ Abs B top' ∧ Nd.Gp top') ?_ ?_
  · by_cases k1 : l[k].kind = 1
    · rw [beq_iff_eq.2 k1]
      by_cases hz : l[k].nodes.length = 0
      · skip
        refine WC.condT rfl ?_
        refine WC.seq ?_
        refine WC.region ?_
        refine WL.val (Val.fldAddr rfl) rfl ?_
        refine WL.val (Val.loadS rfl (Rd.own1 6 rfl rfl)) rfl ?_
        refine WL.val (Val.len rfl) rfl ?_
        refine WL.val (Val.gtr rfl rfl (decide_eq_false (by omega))) rfl ?_
        refine WL.nil ?_
        refine WX.thenC ?_
        refine WC.condF rfl ?_
        refine WC.skip ?_
        refine WX.inNormal ?_
        refine WX.conv (fun w h => h.sub [0, 0, 0, 0, 0, 0] rfl) ?_
        exact WX.thenK (WK.meet ⟨A, top, hI', rfl, rfl, rfl, rfl, rfl, hA, hG⟩)
      refine WC.condT rfl ?_
      refine WC.seq ?_
      refine WC.region ?_
      refine WL.val (Val.fldAddr rfl) rfl ?_
      refine WL.val (Val.loadS rfl (Rd.own1 6 rfl rfl)) rfl ?_
      refine WL.val (Val.len rfl) rfl ?_
      refine WL.val (Val.gtr rfl rfl (decide_eq_true (by omega))) rfl ?_
      refine WL.nil ?_
      refine WX.thenC ?_
      refine WC.condT rfl ?_
      refine WC.seq ?_
      refine WC.region ?_
      refine WL.val (Val.fldAddr rfl) rfl ?_
      refine WL.val (Val.loadS rfl (Rd.own1 6 rfl rfl)) rfl ?_
      refine WL.callP [] rfl rfl (rBuild _ l[k].nodes (Nat.le_refl _) (by omega) _ 0 _ (by omega) (by decide) (by decide) hn) rfl ?_
      rintro _ I2 _ hI2 ⟨rfl, nd, kv, rfl, hkv, hnid, hnsz⟩
      obtain ⟨ka, kc, rfl⟩ := hkv.sl
      refine WL.nApp ?_
      refine WL.val (Val.moveT rfl) rfl ?_
      refine WL.val (Val.extractA rfl rfl) rfl ?_
      refine WL.val (Val.extractI rfl rfl) rfl ?_
      (refine WL.alloc rfl ?_; intro _)
      refine WL.nApp ?_
      refine WL.stA 7 rfl rfl rfl rfl ?_
      refine WL.val (Val.assignI rfl) rfl ?_
      refine WL.nil ?_
      refine WX.thenC ?_
      refine WC.region ?_
      refine WL.val (Val.moveP rfl) rfl ?_
      refine WL.val (Val.fldAddr rfl) rfl ?_
      refine WL.val (Val.loadS rfl (Rd.own1 6 rfl rfl)) rfl ?_
      refine WL.val (Val.fldAddr rfl) rfl ?_
      refine WL.val (Val.loadS rfl (Rd.own1 6 rfl rfl)) rfl ?_
      refine WL.val (Val.ldO 7 rfl rfl rfl) rfl ?_
      refine WL.callP [1, 1, 1, 1, 1] rfl rfl (tAdd A top hA nd _ _ _ _ (by omega) hnid hkv) rfl ?_
      rintro _ I3 _ hI3 ⟨rfl, B, hb, rfl, hB⟩
      rw [← hb]
      refine WL.nApp ?_
      refine WL.nil ?_
      refine WX.inNormal ?_
      refine WX.conv (fun w h => h.sub [0, 2, 2, 2, 2, 2] rfl) ?_
      exact WX.thenK (WK.meet ⟨B, _, hI'.trans (hI2.trans hI3), rfl, rfl, rfl, rfl, rfl, hB, hG.add ho _ _ _⟩)
    rw [beq_eq_false_iff_ne.2 k1]
    by_cases k2 : l[k].kind = 2
    · skip
      refine WC.condF rfl ?_
      refine WC.seq ?_
      refine WC.region ?_
      refine WL.val (Val.eql rfl rfl (beq_iff_eq.2 (by omega))) rfl ?_
      refine WL.val (Val.assignB rfl) rfl ?_
      refine WL.nil ?_
      refine WX.thenC ?_
      refine WC.condT rfl ?_
      refine WC.region ?_
      refine WL.val (Val.moveP rfl) rfl ?_
      refine WL.val (Val.fldAddr rfl) rfl ?_
      refine WL.val (Val.loadS rfl (Rd.own1 6 rfl rfl)) rfl ?_
      refine WL.callP [1, 1, 1, 1, 1] rfl rfl (tRemove A top hA _ _) rfl ?_
      rintro _ I3 _ hI3 ⟨_, B, rfl, _, hb, rfl, hB⟩
      rw [← hb]
      refine WL.nApp ?_
      refine WL.nil ?_
      refine WX.inNormal ?_
      refine WX.conv (fun w h => h.sub [0, 1, 1, 1, 1, 1] rfl) ?_
      exact WX.thenK (WK.meet ⟨B, _, hI'.trans hI3, rfl, rfl, rfl, rfl, rfl, hB, (hG.remove ho _).1⟩)
    by_cases k3 : l[k].kind = 3
    · skip
      refine WC.condF rfl ?_
      refine WC.seq ?_
      refine WC.region ?_
      refine WL.val (Val.eql rfl rfl (beq_eq_false_iff_ne.2 (by omega))) rfl ?_
      refine WL.val (Val.assignB rfl) rfl ?_
      refine WL.nil ?_
      refine WX.thenC ?_
      refine WC.condF rfl ?_
      refine WC.seq ?_
      refine WC.region ?_
      refine WL.val (Val.eql rfl rfl (beq_iff_eq.2 (by omega))) rfl ?_
      refine WL.val (Val.assignB rfl) rfl ?_
      refine WL.nil ?_
      refine WX.thenC ?_
      refine WC.condT rfl ?_
      refine WC.region ?_
      refine WL.val (Val.moveP rfl) rfl ?_
      refine WL.val (Val.fldAddr rfl) rfl ?_
      refine WL.val (Val.loadS rfl (Rd.own1 6 rfl rfl)) rfl ?_
      refine WL.val (Val.fldAddr rfl) rfl ?_
      refine WL.val (Val.loadS rfl (Rd.own1 6 rfl rfl)) rfl ?_
      refine WL.val (Val.fldAddr rfl) rfl ?_
      refine WL.val (Val.loadS rfl (Rd.own1 6 rfl rfl)) rfl ?_
      refine WL.callP [1, 1, 1, 1, 1] rfl rfl (tMove A top hA _ _ _ _) rfl ?_
      rintro _ I3 _ hI3 ⟨rfl, B, hb, rfl, hB⟩
      rw [← hb]
      refine WL.nApp ?_
      refine WL.nil ?_
      refine WX.inNormal ?_
      refine WX.conv (fun w h => h.sub [0, 1, 1, 1, 1, 1] rfl) ?_
      exact WX.thenK (WK.meet ⟨B, _, hI'.trans hI3, rfl, rfl, rfl, rfl, rfl, hB, hG.move ho _ _ _⟩)
    by_cases k4 : l[k].kind = 4
    · skip
      refine WC.condF rfl ?_
      refine WC.seq ?_
      refine WC.region ?_
      refine WL.val (Val.eql rfl rfl (beq_eq_false_iff_ne.2 (by omega))) rfl ?_
      refine WL.val (Val.assignB rfl) rfl ?_
      refine WL.nil ?_
      refine WX.thenC ?_
      refine WC.condF rfl ?_
      refine WC.seq ?_
      refine WC.region ?_
      refine WL.val (Val.eql rfl rfl (beq_eq_false_iff_ne.2 (by omega))) rfl ?_
      refine WL.val (Val.assignB rfl) rfl ?_
      refine WL.nil ?_
      refine WX.thenC ?_
      refine WC.condF rfl ?_
      refine WC.seq ?_
      refine WC.region ?_
      refine WL.val (Val.eql rfl rfl (beq_iff_eq.2 (by omega))) rfl ?_
      refine WL.val (Val.assignB rfl) rfl ?_
      refine WL.nil ?_
      refine WX.thenC ?_
      refine WC.condT rfl ?_
      refine WC.region ?_
      refine WL.val (Val.moveP rfl) rfl ?_
      refine WL.val (Val.fldAddr rfl) rfl ?_
      refine WL.val (Val.loadS rfl (Rd.own1 6 rfl rfl)) rfl ?_
      refine WL.val (Val.fldAddr rfl) rfl ?_
      refine WL.val (Val.loadS rfl (Rd.own1 6 rfl rfl)) rfl ?_
      refine WL.val (Val.fldAddr rfl) rfl ?_
      refine WL.val (Val.loadS rfl (Rd.own1 6 rfl rfl)) rfl ?_
      refine WL.val (Val.fldAddr rfl) rfl ?_
      refine WL.val (Val.loadS rfl (Rd.own1 6 rfl rfl)) rfl ?_
      refine WL.callP [1, 1, 1, 1, 1] rfl rfl (tWrap A top hA _ _ _ _ _ d64 c64) rfl ?_
      rintro _ I3 _ hI3 ⟨rfl, B, hb, rfl, hB⟩
      rw [← hb]
      refine WL.nApp ?_
      refine WL.nil ?_
      refine WX.inNormal ?_
      refine WX.conv (fun w h => h.sub [0, 1, 1, 1, 1, 1] rfl) ?_
      exact WX.thenK (WK.meet ⟨B, _, hI'.trans hI3, rfl, rfl, rfl, rfl, rfl, hB, hG.wrap ho _ _ _ _⟩)
    by_cases k5 : l[k].kind = 5
    · skip
      refine WC.condF rfl ?_
      refine WC.seq ?_
      refine WC.region ?_
      refine WL.val (Val.eql rfl rfl (beq_eq_false_iff_ne.2 (by omega))) rfl ?_
      refine WL.val (Val.assignB rfl) rfl ?_
      refine WL.nil ?_
      refine WX.thenC ?_
      refine WC.condF rfl ?_
      refine WC.seq ?_
      refine WC.region ?_
      refine WL.val (Val.eql rfl rfl (beq_eq_false_iff_ne.2 (by omega))) rfl ?_
      refine WL.val (Val.assignB rfl) rfl ?_
      refine WL.nil ?_
      refine WX.thenC ?_
      refine WC.condF rfl ?_
      refine WC.seq ?_
      refine WC.region ?_
      refine WL.val (Val.eql rfl rfl (beq_eq_false_iff_ne.2 (by omega))) rfl ?_
      refine WL.val (Val.assignB rfl) rfl ?_
      refine WL.nil ?_
      refine WX.thenC ?_
      refine WC.condF rfl ?_
      refine WC.seq ?_
      refine WC.region ?_
      refine WL.val (Val.eql rfl rfl (beq_iff_eq.2 (by omega))) rfl ?_
      refine WL.val (Val.assignB rfl) rfl ?_
      refine WL.nil ?_
      refine WX.thenC ?_
      refine WC.condT rfl ?_
      refine WC.region ?_
      refine WL.val (Val.moveP rfl) rfl ?_
      refine WL.val (Val.fldAddr rfl) rfl ?_
      refine WL.val (Val.loadS rfl (Rd.own1 6 rfl rfl)) rfl ?_
      refine WL.callP [1, 1, 1, 1, 1] rfl rfl (tUnwrap A top hA _ _) rfl ?_
      rintro _ I3 _ hI3 ⟨_, B, rfl, hb, rfl, hB⟩
      rw [← hb]
      refine WL.nApp ?_
      refine WL.nil ?_
      refine WX.inNormal ?_
      refine WX.conv (fun w h => h.sub [0, 1, 1, 1, 1, 1] rfl) ?_
      exact WX.thenK (WK.meet ⟨B, _, hI'.trans hI3, rfl, rfl, rfl, rfl, rfl, hB, hG.unwrap ho _ hhas⟩)
    refine WC.condF rfl ?_
    refine WC.seq ?_
    refine WC.region ?_
    refine WL.val (Val.eql rfl rfl (beq_eq_false_iff_ne.2 (by omega))) rfl ?_
    refine WL.val (Val.assignB rfl) rfl ?_
    refine WL.nil ?_
    refine WX.thenC ?_
    refine WC.condF rfl ?_
    refine WC.seq ?_
    refine WC.region ?_
    refine WL.val (Val.eql rfl rfl (beq_eq_false_iff_ne.2 (by omega))) rfl ?_
    refine WL.val (Val.assignB rfl) rfl ?_
    refine WL.nil ?_
    refine WX.thenC ?_
    refine WC.condF rfl ?_
    refine WC.seq ?_
    refine WC.region ?_
    refine WL.val (Val.eql rfl rfl (beq_eq_false_iff_ne.2 (by omega))) rfl ?_
    refine WL.val (Val.assignB rfl) rfl ?_
    refine WL.nil ?_
    refine WX.thenC ?_
    refine WC.condF rfl ?_
    refine WC.seq ?_
    refine WC.region ?_
    refine WL.val (Val.eql rfl rfl (beq_eq_false_iff_ne.2 (by omega))) rfl ?_
    refine WL.val (Val.assignB rfl) rfl ?_
    refine WL.nil ?_
    refine WX.thenC ?_
    refine WC.condF rfl ?_
    refine WC.skip ?_
    refine WX.inNormal ?_
    refine WX.conv (fun w h => h.sub [0, 0, 0, 0, 0, 0] rfl) ?_
    exact WX.thenK (WK.meet ⟨A, top, hI', rfl, rfl, rfl, rfl, rfl, hA, hG⟩)
  clear hA hG ho hhas hn hAt k64 d64 p64 i64 c64 hI'
  rintro ρ' I' L' ⟨A, top, hI', r3, r28, r29, r30, rfl, hA, hG⟩
  rw [← upd_self r30, ← upd_self r29, ← upd_self r28, ← upd_self r3]
  clear r30 r29 r28 r3
  refine WC.seq ?_
  refine WC.region ?_
  refine WL.makeMap rfl fun mb => ?_
  refine WL.nApp ?_
  refine WL.val Val.assign rfl ?_
  refine WL.nil ?_
  refine WX.thenC ?_
  refine WC.seq ?_
  refine WC.seq ?_
  refine WC.region ?_
  refine WL.val (Val.moveP rfl) rfl ?_
  refine WL.callR [1, 1, 1, 1, 1] rfl rfl rfl (aOrder A top hA _) rfl ?_
  rintro _ I2 hI2 hord
  obtain ⟨oa, oc, rfl⟩ := hord.sl
  have hz := hA.size_le
  have htl : top.order.tail.length = top.size - 1 := by rw [List.length_tail, Nd.order_len]
  have hnd : top.order.tail.Nodup := hA.od.sublist (List.tail_sublist _)
  have hsz := top.size_pos
  refine WL.val (Val.len rfl) rfl ?_
  refine WL.val (Val.moveI rfl) rfl ?_
  refine WL.nil ?_
  refine WX.thenC ?_
  refine WC.block ?_
  refine WC.loop (fun m ρ' I' L' => ∃ j : Nat, m = top.order.tail.length - j ∧ j ≤ top.order.tail.length ∧ I2.le I' ∧ ρ' 3 = ptr A.b ∧ ρ' 28 = .slice (some ⟨b, off, none⟩) l.length c1 ∧ ρ' 29 = vi l.length ∧ ρ' 30 = vi k ∧ ρ' 8 = .map (some mb) ∧ ρ' 91 = .slice oa top.order.tail.length oc ∧ ρ' 92 = vi top.order.tail.length ∧ ρ' 93 = vi j ∧ L' = F :: A.on [mp mb (seenI (top.order.tail.take j)) j])
    top.order.tail.length ⟨0, rfl, by omega, Mem.le.refl _, rfl, rfl, rfl, rfl, rfl, rfl, rfl, rfl, ?_⟩ ?_
  · have : seenI (top.order.tail.take 0) = fun _ => none := by funext x; simp [seenI]
    rw [this]
  rintro m ρ' I3 L' ⟨j, rfl, hj, hI3, r3, r28, r29, r30, r8, r91, r92, r93, rfl⟩
  rw [← upd_self r93, ← upd_self r92, ← upd_self r91, ← upd_self r8, ← upd_self r30, ← upd_self r29, ← upd_self r28, ← upd_self r3]
  clear r93 r92 r91 r8 r30 r29 r28 r3
  by_cases hjn : j < top.order.tail.length
  case neg =>
    have hjl : j = top.order.tail.length := by omega
    subst hjl
    refine WC.seq ?_
    refine WC.region ?_
    refine WL.val (Val.lss rfl rfl (decide_eq_false (by omega))) rfl ?_
    refine WL.nil ?_
    refine WX.thenC ?_
    refine WC.seq ?_
    refine WC.condF rfl ?_
    refine WC.exit ?_
    refine WX.thenExit ?_
    refine WX.thenExit ?_
    refine WX.inHit ?_
    refine WX.thenC ?_
    refine WC.seq ?_
    refine WC.region ?_
    refine WL.val Val.move rfl ?_
    refine WL.val (Val.lenMap 6 rfl rfl) rfl ?_
    refine WL.val (Val.moveP rfl) rfl ?_
    refine WL.callK [1, 1, 1, 1, 1] rfl rfl rfl (aCount A top hA _) rfl ?_
    rintro _ rfl
    refine WL.val (Val.neq rfl rfl (bne_eq_false_iff_eq.2 (by omega))) rfl ?_
    refine WL.nil ?_
    refine WX.thenC ?_
    refine WC.condF rfl ?_
    refine WC.skip ?_
    refine WX.inNormal ?_
    refine WX.thenC ?_
    refine WC.region ?_
    refine WL.val (Val.add rfl rfl (wrap_i64 (by omega) (by omega))) rfl ?_
    refine WL.val (Val.moveI rfl) rfl ?_
    refine WL.nil ?_
    refine WX.conv (fun w h => h.sub [0, 0, 0, 0, 0, 0] rfl) ?_
    exact WX.thenK (WK.round (l.length - (k + 1)) (by omega) ⟨k + 1, A, top, rfl, by omega, hI'.trans (hI2.trans hI3), rfl, rfl, rfl, rfl, rfl, hA, hG⟩)
  have hm : top.order.tail[j] ∈ top.order.tail := List.getElem_mem hjn
  obtain ⟨y, q, hq, hw, hf, hyq, hdep, hyg⟩ := hA.apart hG hm
  have hnj : seenI (top.order.tail.take j) top.order.tail[j] = none := by
    rw [seenI, if_neg]
    intro hmem
    exact dis_of_nodup (a := top.order.tail.take j) (b := top.order.tail.drop j) (by rw [List.take_append_drop]; exact hnd) hmem (by rw [drop_eq hjn]; exact List.mem_cons_self ..)
  obtain ⟨b2, off2, cap2, cs2, he, hR2, hAt2⟩ := (hord.mono hI3).get j hjn
  cases he
  obtain ⟨rfl, x64⟩ := hR2
  refine WC.seq ?_
  refine WC.region ?_
  refine WL.val (Val.lss rfl rfl (decide_eq_true (by omega))) rfl ?_
  refine WL.nil ?_
  refine WX.thenC ?_
  refine WC.seq ?_
  refine WC.condT rfl ?_
  refine WC.skip ?_
  refine WX.thenC ?_
  refine WC.seq ?_
  refine WC.block ?_
  refine WC.seq ?_
  refine WC.region ?_
  refine WL.val (Val.indexAddr rfl rfl (by omega) (by omega)) rfl ?_
  refine WL.val (Val.loadS rfl (Rd.imm (by assumption))) rfl ?_
  refine WL.val (Val.assignI rfl) rfl ?_
  refine WL.nil ?_
  refine WX.thenC ?_
  refine WC.seq ?_
  refine WC.region ?_
  refine WL.val (Val.moveP rfl) rfl ?_
  refine WL.val (Val.moveI rfl) rfl ?_
  refine WL.callK [1, 1, 1, 1, 1] rfl rfl rfl (aWhere A top hA _ _) rfl ?_
  rintro _ rfl
  rw [hw]
  refine WL.val (Val.moveT rfl) rfl ?_
  refine WL.val (Val.extractI rfl rfl) rfl ?_
  refine WL.val (Val.extractI rfl rfl) rfl ?_
  refine WL.val (Val.extractB rfl rfl) rfl ?_
  refine WL.val (Val.assignI rfl) rfl ?_
  refine WL.val (Val.assignI rfl) rfl ?_
  refine WL.val (Val.assignB rfl) rfl ?_
  refine WL.nil ?_
  refine WX.thenC ?_
  refine WC.seq ?_
  refine WC.region ?_
  refine WL.val (Val.moveP rfl) rfl ?_
  refine WL.val (Val.moveI rfl) rfl ?_
  refine WL.callR [1, 1, 1, 1, 1] rfl rfl rfl (aKids A top hA _ _) rfl ?_
  rintro _ I4 hI4 hkids
  rw [hf, Option.map_some, Option.getD_some] at hkids
  obtain ⟨ka, kc, rfl⟩ := hkids.sl
  have hkl : (y.kids.map Nd.id).length = y.kids.length := List.length_map ..
  have hq' : q < (y.kids.map Nd.id).length := by rw [hkl]; exact hq
  obtain ⟨b3, off3, cap3, cs3, he, hR3, hAt3⟩ := hkids.get q hq'
  cases he
  obtain ⟨rfl, y64⟩ := hR3
  have hqy : (y.kids.map Nd.id)[q] = top.order.tail[j] := by rw [List.getElem_map]; exact hyq
  rw [hqy] at hAt3
  have hs : (seenI (top.order.tail.take j) top.order.tail[j]).getD (.bool false) = .bool false := by rw [hnj]; rfl
  have hdl := Nd.depth_le y.id top
  refine WL.val (Val.assignS rfl) rfl ?_
  refine WL.nil ?_
  refine WX.thenC ?_
  refine WC.seq ?_
  refine WC.seq ?_
  refine WC.region ?_
  refine WL.val Val.move rfl ?_
  refine WL.val (Val.moveI rfl) rfl ?_
  refine WL.val (Val.to hs (Val.lookup1 6 rfl rfl rfl)) rfl ?_
  refine WL.val (Val.moveB rfl) rfl ?_
  refine WL.gT rfl rfl ?_
  refine WL.val (Val.moveB rfl) rfl ?_
  refine WL.gT rfl rfl ?_
  refine WL.val (Val.not rfl) rfl ?_
  refine WL.val (Val.pick rfl) rfl ?_
  refine WL.val (Val.moveB rfl) rfl ?_
  refine WL.gT rfl rfl ?_
  refine WL.val (Val.moveI rfl) rfl ?_
  refine WL.gT rfl rfl ?_
  refine WL.val (Val.lss rfl rfl (decide_eq_false (by omega))) rfl ?_
  refine WL.val (Val.pick rfl) rfl ?_
  refine WL.val (Val.moveB rfl) rfl ?_
  refine WL.gT rfl rfl ?_
  refine WL.val (Val.moveI rfl) rfl ?_
  refine WL.gT rfl rfl ?_
  refine WL.val (Val.moveS rfl) rfl ?_
  refine WL.gT rfl rfl ?_
  refine WL.val (Val.len rfl) rfl ?_
  refine WL.gT rfl rfl ?_
  refine WL.val (Val.geq rfl rfl (decide_eq_false (by omega))) rfl ?_
  refine WL.val (Val.pick rfl) rfl ?_
  refine WL.val (Val.moveB rfl) rfl ?_
  refine WL.gT rfl rfl ?_
  refine WL.val (Val.moveS rfl) rfl ?_
  refine WL.gT rfl rfl ?_
  refine WL.val (Val.moveI rfl) rfl ?_
  refine WL.gT rfl rfl ?_
  refine WL.val (Val.indexAddr rfl rfl (by omega) (by omega)) rfl ?_
  refine WL.gT rfl rfl ?_
  refine WL.val (Val.loadS rfl (Rd.imm (by assumption))) rfl ?_
  refine WL.gT rfl rfl ?_
  refine WL.val (Val.moveI rfl) rfl ?_
  refine WL.gT rfl rfl ?_
  refine WL.val (Val.neq rfl rfl (bne_eq_false_iff_eq.2 (by omega))) rfl ?_
  refine WL.val (Val.pick rfl) rfl ?_
  refine WL.val (Val.moveB rfl) rfl ?_
  refine WL.gT rfl rfl ?_
  refine WL.val (Val.moveP rfl) rfl ?_
  refine WL.gT rfl rfl ?_
  refine WL.val (Val.moveI rfl) rfl ?_
  refine WL.gT rfl rfl ?_
  refine WL.callK [1, 1, 1, 1, 1] rfl rfl rfl (aDepth A top hA _ _) rfl ?_
  rintro _ rfl
  refine WL.gT rfl rfl ?_
  refine WL.val (Val.moveP rfl) rfl ?_
  refine WL.gT rfl rfl ?_
  refine WL.val (Val.moveI rfl) rfl ?_
  refine WL.gT rfl rfl ?_
  refine WL.callK [1, 1, 1, 1, 1] rfl rfl rfl (aDepth A top hA _ _) rfl ?_
  rintro _ rfl
  refine WL.gT rfl rfl ?_
  refine WL.val (Val.add rfl rfl (wrap_i64 (by omega) (by omega))) rfl ?_
  refine WL.gT rfl rfl ?_
  refine WL.val (Val.neq rfl rfl (bne_eq_false_iff_eq.2 (by omega))) rfl ?_
  refine WL.val (Val.pick rfl) rfl ?_
  refine WL.val (Val.moveB rfl) rfl ?_
  refine WL.gT rfl rfl ?_
  refine WL.val (Val.moveP rfl) rfl ?_
  refine WL.gT rfl rfl ?_
  refine WL.val (Val.moveI rfl) rfl ?_
  refine WL.gT rfl rfl ?_
  refine WL.callK [1, 1, 1, 1, 1] rfl rfl rfl (aIsGroup A top hA _ _) rfl ?_
  rintro _ rfl
  rw [hf, Option.map_some, Option.getD_some, hyg]
  refine WL.gT rfl rfl ?_
  refine WL.val (Val.not rfl) rfl ?_
  refine WL.val (Val.pick rfl) rfl ?_
  refine WL.nil ?_
  refine WX.thenC ?_
  refine WC.condF rfl ?_
  refine WC.skip ?_
  refine WX.thenC ?_
  refine WC.region ?_
  refine WL.val Val.move rfl ?_
  refine WL.val (Val.moveI rfl) rfl ?_
  refine WL.mapUpdate 6 rfl rfl rfl ?_
  refine WL.nSet ?_
  have hs2 : (seenI (top.order.tail.take j) top.order.tail[j]).isSome = false := by rw [hnj]; rfl
  have hend : ∀ L9, L9 = F :: A.on [mp mb (Sl.put (seenI (top.order.tail.take j)) top.order.tail[j] (.bool true)) (if (seenI (top.order.tail.take j) top.order.tail[j]).isSome then j else j + 1)] → L9 = F :: A.on [mp mb (seenI (top.order.tail.take (j + 1))) (j + 1)] := fun L9 h => by
    rw [h, take1 _ _ hjn, seenI_snoc, hs2]; rfl
  refine WL.nil ?_
  refine WX.inNormal ?_
  refine WX.thenC ?_
  refine WC.region ?_
  refine WL.val (Val.add rfl rfl (wrap_i64 (by omega) (by omega))) rfl ?_
  refine WL.val (Val.moveI rfl) rfl ?_
  refine WL.nil ?_
  exact WX.thenK (WK.round (top.order.tail.length - (j + 1)) (by omega) ⟨j + 1, rfl, by omega, hI3.trans hI4, rfl, rfl, rfl, rfl, rfl, rfl, rfl, rfl, hend _ rfl⟩)
end Go.Proofs.Ytfdeckdongonnab
