/-
 Tree, plain law: who has kids is a group, whatever becomes of a tree; each node is the kid of its parent at its place, and one deeper.
-/
import Derived.Test.YtggcpoleklcmkaaGreatDoorX7
import Derived.Test.YtggcpoleklcmkaaGreatDoorX5
import Derived.Test.YtggcpoleklcmkaaGreatDoorX2
import Derived.Test.YtggcpoleklcmkaaGreatDoorX3
import Derived.Test.YtggcpoleklcmkaaGreatDoorX4
set_option linter.unusedVariables false
set_option linter.unusedSimpArgs false
set_option maxRecDepth 100000
set_option maxHeartbeats 8000000
namespace Go.Tr
open Go.Sl Go.Ls
namespace Nd
mutual
def All (C : Int → Bool → List Nd → Prop) : Nd → Prop | .mk j g ks => C j g ks ∧ Alls C ks
def Alls (C : Int → Bool → List Nd → Prop) : List Nd → Prop | [] => True | k :: ks => All C k ∧ Alls C ks
end
variable {C C' : Int → Bool → List Nd → Prop}
theorem Alls_iff : ∀ {l : List Nd}, Alls C l ↔ ∀ k ∈ l, All C k
 | [] => by simp [Alls]
 | x :: l => by rw [Alls, Alls_iff (l := l)]; simp
theorem Alls.app {a b : List Nd} (h : Alls C a) (k : Alls C b) : Alls C (a ++ b) := Alls_iff.2 fun x hx => (List.mem_append.1 hx).elim (Alls_iff.1 h x) (Alls_iff.1 k x)
theorem Alls.take {l : List Nd} (h : Alls C l) (n : Nat) : Alls C (l.take n) := Alls_iff.2 fun x hx => Alls_iff.1 h x (List.mem_of_mem_take hx)
theorem Alls.drop {l : List Nd} (h : Alls C l) (n : Nat) : Alls C (l.drop n) := Alls_iff.2 fun x hx => Alls_iff.1 h x (List.mem_of_mem_drop hx)
theorem All.kids : ∀ {n : Nd}, All C n → Alls C n.kids
 | .mk _ _ _, h => by rw [All] at h; exact h.2
theorem All.self : ∀ {n : Nd}, All C n → C n.id n.grp n.kids
 | .mk _ _ _, h => by rw [All] at h; exact h.1
theorem All.find {i : Int} (n : Nd) : ∀ m, All C n → Nd.find i n = some m → All C m := by
 refine Nd.rec (motive_1 := fun n => ∀ m, All C n → Nd.find i n = some m → All C m) (motive_2 := fun l => ∀ m, Alls C l → finds i l = some m → All C m) ?_ ?_ ?_ n
 ·intro j g ks ih m h hf
  rw [Nd.find] at hf
  by_cases hj : j = i
  ·rw [if_pos hj] at hf; cases hf; exact h
  ·rw [if_neg hj] at hf; exact ih m h.kids hf
 ·intro m _ hf; simp [finds] at hf
 ·intro k ks h1 h2 m h hf
  rw [Alls] at h
  rw [finds] at hf
  cases hk : Nd.find i k with
  | some x => rw [hk] at hf; cases hf; exact h1 _ h.1 hk
  | none => rw [hk] at hf; exact h2 _ h.2 hf
theorem All.with_ {i : Int} {ks : List Nd} (hks : Alls C' ks) (h1 : ∀ g ks0, C i g ks0 → C' i g ks) (h2 : ∀ j g (ks0 ks1 : List Nd), ks0.length = ks1.length → C j g ks0 → C' j g ks1) (n : Nd) : All C n → All C' (Nd.with_ i ks n) := by
 refine Nd.rec (motive_1 := fun n => All C n → All C' (Nd.with_ i ks n)) (motive_2 := fun l => Alls C l → Alls C' (withs i ks l)) ?_ ?_ ?_ n
 ·intro j g ks0 ih h
  rw [All] at h
  rw [Nd.with_]
  by_cases hj : j = i
  ·subst hj
   rw [if_pos rfl, All]
   exact ⟨h1 _ _ h.1, hks⟩
  ·rw [if_neg hj, All]
   exact ⟨h2 _ _ _ _ (withs_len i ks ks0).symm h.1, ih h.2⟩
 ·intro _; rw [withs, Alls]; trivial
 ·intro k l ha hb h
  rw [Alls] at h
  rw [withs, Alls]
  exact ⟨ha h.1, hb h.2⟩
theorem All.and (n : Nd) : All C n → All C' n → All (fun j g ks => C j g ks ∧ C' j g ks) n := by
 refine Nd.rec (motive_1 := fun n => All C n → All C' n → All (fun j g ks => C j g ks ∧ C' j g ks) n) (motive_2 := fun l => Alls C l → Alls C' l → Alls (fun j g ks => C j g ks ∧ C' j g ks) l) ?_ ?_ ?_ n
 ·intro j g ks ih hn hm
  rw [All] at hn hm ⊢
  exact ⟨⟨hn.1, hm.1⟩, ih hn.2 hm.2⟩
 ·intro _ _; rw [Alls]; trivial
 ·intro k l ha hb hn hm
  rw [Alls] at hn hm ⊢
  exact ⟨ha hn.1 hm.1, hb hn.2 hm.2⟩
abbrev Gp (n : Nd) : Prop := All (fun _ g ks => ks ≠ [] → g = true) n
abbrev Ga (i : Int) (n : Nd) : Prop := All (fun j g _ => j = i → g = true) n
theorem Ga.of {i : Int} (n : Nd) : n.order.Nodup → (∀ m, Nd.find i n = some m → m.grp = true) → Ga i n := by
 refine Nd.rec (motive_1 := fun n => n.order.Nodup → (∀ m, Nd.find i n = some m → m.grp = true) → Ga i n) (motive_2 := fun l => (orders l).Nodup → (∀ m, finds i l = some m → m.grp = true) → Alls (fun j g _ => j = i → g = true) l) ?_ ?_ ?_ n
 ·intro j g ks ih ho hf
  rw [order, List.nodup_cons] at ho
  rw [Ga, All]
  refine ⟨fun e => ?_, ih ho.2 fun m hm => ?_⟩
  ·exact hf (.mk j g ks) (by rw [Nd.find, if_pos e])
  ·by_cases e : j = i
   ·rw [finds_none i ks (e ▸ ho.1)] at hm; cases hm
   ·exact hf m (by rw [Nd.find, if_neg e]; exact hm)
 ·intro _ _; rw [Alls]; trivial
 ·intro k l ha hb ho hf
  rw [orders, List.nodup_append] at ho
  rw [Alls]
  refine ⟨ha ho.1 fun m hm => hf m (by rw [finds, hm]; rfl), hb ho.2.1 fun m hm => hf m ?_⟩
  have hi : i ∈ orders l := by
   refine Decidable.byContradiction fun hn => ?_
   rw [finds_none i l hn] at hm; cases hm
  rw [finds, find_none i k fun hk => ho.2.2 i hk i hi rfl]
  exact hm
theorem Gp.with_ {i : Int} {ks : List Nd} {n : Nd} (h : Gp n) (ha : Ga i n) (hk : Alls (fun _ g ks => ks ≠ [] → g = true) ks) : Gp (Nd.with_ i ks n) :=
 All.with_ (C := fun j g ks => (ks ≠ [] → g = true) ∧ (j = i → g = true)) hk (fun g ks0 hc _ => hc.2 rfl) (fun j g ks0 ks1 hl hc hne => hc.1 fun e => hne (List.length_eq_zero_iff.1 (by rw [← hl, e]; rfl))) n (All.and n h ha)
theorem Ga.with_ {i j : Int} {ks : List Nd} {n : Nd} (h : Ga j n) (hk : Alls (fun x g _ => x = j → g = true) ks) : Ga j (Nd.with_ i ks n) :=
 All.with_ hk (fun g ks0 hc => hc) (fun j g ks0 ks1 hl hc => hc) n h
theorem Gp.wrong (top : Nd) (n : Nd) : ∀ (seen : List Int) (d : Int), (wrong top n seen d).1 = 0 → Gp n := by
 refine Nd.rec (motive_1 := fun n => ∀ (seen : List Int) (d : Int), (Nd.wrong top n seen d).1 = 0 → Gp n)
  (motive_2 := fun l => ∀ (seen : List Int) (d : Int), (wrongs top l seen d).1 = 0 → Alls (fun _ g ks => ks ≠ [] → g = true) l) ?_ ?_ ?_ n
 ·intro i g ks ih seen d h
  simp only [Nd.wrong] at h
  by_cases h1 : i < 1 ∨ 2147483648 < i
  ·rw [if_pos h1] at h; exact absurd h (by show ¬ (30 : Int) = 0; decide)
  rw [if_neg h1] at h
  by_cases h2 : (Nd.find i top).isSome = true
  ·rw [if_pos h2] at h; exact absurd h (by show ¬ (32 : Int) = 0; decide)
  rw [if_neg h2] at h
  by_cases h3 : i ∈ seen
  ·rw [if_pos h3] at h; exact absurd h (by show ¬ (32 : Int) = 0; decide)
  rw [if_neg h3] at h
  by_cases h4 : g = false ∧ 0 < ks.length
  ·rw [if_pos h4] at h; exact absurd h (by show ¬ (33 : Int) = 0; decide)
  rw [if_neg h4] at h
  by_cases h5 : 64 < d
  ·rw [if_pos h5] at h; exact absurd h (by show ¬ (35 : Int) = 0; decide)
  rw [if_neg h5] at h
  rw [Gp, All]
  refine ⟨fun hne => ?_, ih _ _ h⟩
  cases g with
  | true => rfl
  | false => exact absurd ⟨rfl, List.length_pos_iff.2 hne⟩ h4
 ·intro seen d _; rw [Alls]; trivial
 ·intro k ks h1 h2 seen d h
  simp only [wrongs] at h
  by_cases hk : (Nd.wrong top k seen d).1 = 0
  ·rw [if_pos hk] at h
   rw [Alls]
   exact ⟨h1 _ _ hk, h2 _ _ h⟩
  ·rw [if_neg hk] at h; exact absurd h hk
theorem Gp.fits {top n : Nd} {d : Int} (h : fits top n d = 0) : Gp n := by
 rw [Nd.fits] at h
 by_cases h1 : 65536 < (top.size : Int) - 1 + n.size
 ·rw [if_pos h1] at h; cases h
 ·rw [if_neg h1] at h; exact Gp.wrong top n [] d h
variable {top : Nd}
theorem Gp.found (h : Gp top) {i : Int} {m : Nd} (hf : Nd.find i top = some m) : Gp m := All.find top m h hf
theorem Ga.found {i j : Int} {m : Nd} (h : Ga j top) (hf : Nd.find i top = some m) : Ga j m := All.find top m h hf
theorem Ga.remove {j : Int} (h : Ga j top) (i : Int) : Ga j (Nd.remove top i).1 := by
 rw [Nd.remove]
 split
 ·exact h
 ·split
  ·exact h
  ·split
   ·exact h
   ·split
    ·exact h
    ·rename_i q k _ p hp
     have := (h.found hp).kids
     exact h.with_ ((this.take _).app (this.drop _))
end Nd
section
variable {A : Ar} {top : Nd}
end
end Go.Tr

namespace Go.Tr
open Go.Sl Go.Ls
namespace Nd
theorem depth_height {q : Int} (n : Nd) : ∀ p, Nd.find q n = some p → 0 ≤ Nd.depth q n ∧ Nd.depth q n + p.height ≤ n.height := by
 refine Nd.rec (motive_1 := fun n => ∀ p, Nd.find q n = some p → 0 ≤ Nd.depth q n ∧ Nd.depth q n + p.height ≤ n.height) (motive_2 := fun l => ∀ p, finds q l = some p → 0 ≤ depths q l ∧ depths q l + p.height ≤ (heights l : Int) + 1) ?_ ?_ ?_ n
 ·intro j g ks0 ih p hp
  rw [Nd.find] at hp
  rw [Nd.depth]
  by_cases hj : j = q
  ·rw [if_pos hj] at hp; cases hp
   rw [if_pos hj]; omega
  ·rw [if_neg hj] at hp
   rw [if_neg hj, Nd.height]
   have := ih p hp
   omega
 ·intro p hp; simp [finds] at hp
 ·intro k l h1 h2 p hp
  rw [finds] at hp
  rw [depths, heights]
  cases hk : Nd.find q k with
  | some x =>
   rw [hk] at hp; cases hp
   have := h1 _ hk
   rw [if_pos this.1]
   omega
  | none =>
   rw [hk] at hp
   have hn : q ∉ k.order := fun hm => by
    have := (find_some q k).2 hm
    rw [hk] at this; cases this
   have := h2 _ hp
   rw [depth_none q k hn, if_neg (by decide)]
   omega
theorem height_with {q : Int} (ks : List Nd) (n : Nd) : ∀ p, Nd.find q n = some p → n.order.Nodup → ((Nd.with_ q ks n).height : Int) ≤ max (n.height : Int) (Nd.depth q n + 1 + heights ks) := by
 refine Nd.rec (motive_1 := fun n => ∀ p, Nd.find q n = some p → n.order.Nodup → ((Nd.with_ q ks n).height : Int) ≤ max (n.height : Int) (Nd.depth q n + 1 + heights ks)) (motive_2 := fun l => ∀ p, finds q l = some p → (orders l).Nodup → (heights (withs q ks l) : Int) ≤ max (heights l : Int) (depths q l + heights ks)) ?_ ?_ ?_ n
 ·intro j g ks0 ih p hp ho
  rw [Nd.find] at hp
  rw [Nd.with_, Nd.depth, Nd.height, Nd.height]
  rw [order, List.nodup_cons] at ho
  by_cases hj : j = q
  ·rw [if_pos hj, if_pos hj]; omega
  ·rw [if_neg hj] at hp
   rw [if_neg hj, if_neg hj]
   have := ih p hp ho.2
   omega
 ·intro p hp; simp [finds] at hp
 ·intro k l h1 h2 p hp ho
  rw [finds] at hp
  rw [orders, List.nodup_append] at ho
  rw [withs, depths, heights, heights]
  cases hk : Nd.find q k with
  | some x =>
   have hq : q ∈ k.order := (find_some q k).1 (by rw [hk]; rfl)
   have h3 := h1 _ hk ho.1
   have h4 := (depth_height k _ hk).1
   rw [withs_none q _ l fun hl => ho.2.2 q hq q hl rfl, if_pos h4]
   omega
  | none =>
   rw [hk] at hp
   have hn : q ∉ k.order := fun hm => by
    have := (find_some q k).2 hm
    rw [hk] at this; cases this
   have h3 := h2 _ hp ho.2.1
   rw [with_none q _ k hn, depth_none q k hn, if_neg (by decide)]
   omega
theorem order_with {q x : Int} (ks : List Nd) (n : Nd) : x ∈ (Nd.with_ q ks n).order → x ∈ n.order ∨ x ∈ orders ks := by
 refine Nd.rec (motive_1 := fun n => x ∈ (Nd.with_ q ks n).order → x ∈ n.order ∨ x ∈ orders ks) (motive_2 := fun l => x ∈ orders (withs q ks l) → x ∈ orders l ∨ x ∈ orders ks) ?_ ?_ ?_ n
 ·intro j g ks0 ih h
  rw [Nd.with_, order, List.mem_cons] at h
  rw [order, List.mem_cons]
  rcases h with h | h
  ·exact .inl (.inl h)
  ·by_cases hj : j = q
   ·rw [if_pos hj] at h; exact .inr h
   ·rw [if_neg hj] at h
    exact (ih h).imp .inr fun y => y
 ·intro h; exact .inl h
 ·intro k l h1 h2 h
  rw [withs, orders, List.mem_append] at h
  rw [orders, List.mem_append]
  rcases h with h | h
  ·exact (h1 h).imp .inl fun y => y
  ·exact (h2 h).imp .inr fun y => y
theorem find_order {q x : Int} {n p : Nd} (hp : Nd.find q n = some p) : x ∈ p.order → x ∈ n.order := by
 have key : ∀ n : Nd, ∀ p, Nd.find q n = some p → x ∈ p.order → x ∈ n.order := fun n => by
  refine Nd.rec (motive_1 := fun n => ∀ p, Nd.find q n = some p → x ∈ p.order → x ∈ n.order) (motive_2 := fun l => ∀ p, finds q l = some p → x ∈ p.order → x ∈ orders l) ?_ ?_ ?_ n
  ·intro j g ks0 ih p hp hx
   rw [Nd.find] at hp
   by_cases hj : j = q
   ·rw [if_pos hj] at hp; cases hp; exact hx
   ·rw [if_neg hj] at hp
    rw [order]; exact List.mem_cons_of_mem _ (ih p hp hx)
  ·intro p hp; simp [finds] at hp
  ·intro k l h1 h2 p hp hx
   rw [finds] at hp
   rw [orders, List.mem_append]
   cases hk : Nd.find q k with
   | some y => rw [hk] at hp; cases hp; exact .inl (h1 _ hk hx)
   | none => rw [hk] at hp; exact .inr (h2 _ hp hx)
 exact key n p hp
end Nd
end Go.Tr

namespace Go.Tr
open Go.Sl Go.Ls
namespace Nd
theorem size_with {q : Int} (ks : List Nd) (n : Nd) : ∀ p, Nd.find q n = some p → n.order.Nodup → (Nd.with_ q ks n).size + sizes p.kids = n.size + sizes ks := by
 refine Nd.rec (motive_1 := fun n => ∀ p, Nd.find q n = some p → n.order.Nodup → (Nd.with_ q ks n).size + sizes p.kids = n.size + sizes ks) (motive_2 := fun l => ∀ p, finds q l = some p → (orders l).Nodup → sizes (withs q ks l) + sizes p.kids = sizes l + sizes ks) ?_ ?_ ?_ n
 ·intro j g ks0 ih p hp ho
  rw [Nd.find] at hp
  rw [Nd.with_, Nd.size, Nd.size]
  rw [order, List.nodup_cons] at ho
  by_cases hj : j = q
  ·rw [if_pos hj] at hp; cases hp
   rw [if_pos hj]
   show 1 + sizes ks + sizes ks0 = _
   omega
  ·rw [if_neg hj] at hp
   rw [if_neg hj]
   have := ih p hp ho.2
   omega
 ·intro p hp; simp [finds] at hp
 ·intro k l h1 h2 p hp ho
  rw [finds] at hp
  rw [orders, List.nodup_append] at ho
  rw [withs, sizes, sizes]
  cases hk : Nd.find q k with
  | some x =>
   rw [hk] at hp; cases hp
   have hq : q ∈ k.order := (find_some q k).1 (by rw [hk]; rfl)
   have h3 := h1 _ hk ho.1
   rw [withs_none q _ l fun hl => ho.2.2 q hq q hl rfl]
   omega
  | none =>
   rw [hk] at hp
   have hn : q ∉ k.order := fun hm => by
    have := (find_some q k).2 hm
    rw [hk] at this; cases this
   have h3 := h2 _ hp ho.2.1
   rw [with_none q _ k hn]
   omega
theorem wrong_height (top : Nd) (n : Nd) : ∀ (seen : List Int) (d : Int), (wrong top n seen d).1 = 0 → d + n.height - 1 ≤ 64 := by
 refine Nd.rec (motive_1 := fun n => ∀ (seen : List Int) (d : Int), (Nd.wrong top n seen d).1 = 0 → d + n.height - 1 ≤ 64)
  (motive_2 := fun l => ∀ (seen : List Int) (d : Int), (wrongs top l seen d).1 = 0 → heights l = 0 ∨ d + heights l - 1 ≤ 64) ?_ ?_ ?_ n
 ·intro i g ks ih seen d h
  simp only [Nd.wrong] at h
  by_cases h1 : i < 1 ∨ 2147483648 < i
  ·rw [if_pos h1] at h; exact absurd h (by show ¬ (30 : Int) = 0; decide)
  rw [if_neg h1] at h
  by_cases h2 : (Nd.find i top).isSome = true
  ·rw [if_pos h2] at h; exact absurd h (by show ¬ (32 : Int) = 0; decide)
  rw [if_neg h2] at h
  by_cases h3 : i ∈ seen
  ·rw [if_pos h3] at h; exact absurd h (by show ¬ (32 : Int) = 0; decide)
  rw [if_neg h3] at h
  by_cases h4 : g = false ∧ 0 < ks.length
  ·rw [if_pos h4] at h; exact absurd h (by show ¬ (33 : Int) = 0; decide)
  rw [if_neg h4] at h
  by_cases h5 : 64 < d
  ·rw [if_pos h5] at h; exact absurd h (by show ¬ (35 : Int) = 0; decide)
  rw [if_neg h5] at h
  rw [Nd.height]
  have := ih _ _ h
  omega
 ·intro seen d _; exact .inl rfl
 ·intro k ks h1 h2 seen d h
  simp only [wrongs] at h
  by_cases hk : (Nd.wrong top k seen d).1 = 0
  ·rw [if_pos hk] at h
   rw [heights]
   have e1 := h1 _ _ hk
   have e2 := h2 _ _ h
   omega
  ·rw [if_neg hk] at h; exact absurd h hk
theorem fits_height {top n : Nd} {d : Int} (h : fits top n d = 0) : d + n.height - 1 ≤ 64 := by
 rw [Nd.fits] at h
 by_cases h1 : 65536 < (top.size : Int) - 1 + n.size
 ·rw [if_pos h1] at h; cases h
 ·rw [if_neg h1] at h; exact wrong_height top n [] d h
theorem heights_take (l : List Nd) (k : Nat) : heights (l.take k) ≤ heights l := by
 have := heights_app (l.take k) (l.drop k)
 rw [List.take_append_drop] at this
 omega
theorem heights_drop (l : List Nd) (k : Nat) : heights (l.drop k) ≤ heights l := by
 have := heights_app (l.take k) (l.drop k)
 rw [List.take_append_drop] at this
 omega
theorem orders_take {l : List Nd} {k : Nat} {x : Int} (h : x ∈ orders (l.take k)) : x ∈ orders l := by
 rw [← List.take_append_drop k l, orders_app]; exact List.mem_append_left _ h
theorem orders_drop {l : List Nd} {k : Nat} {x : Int} (h : x ∈ orders (l.drop k)) : x ∈ orders l := by
 rw [← List.take_append_drop k l, orders_app]; exact List.mem_append_right _ h
theorem sizes_td (l : List Nd) (k : Nat) : sizes (l.take k) + sizes (l.drop k) = sizes l := by
 rw [← sizes_app, List.take_append_drop]
theorem orders_kids {n : Nd} {x : Int} (h : x ∈ orders n.kids) : x ∈ n.order := by rw [order_eq]; exact List.mem_cons_of_mem _ h
theorem height_eq (n : Nd) : n.height = heights n.kids + 1 := by cases n; rfl
structure Good (t : Nd) : Prop where
 gp : Gp t
 ht : t.height ≤ 65
 ids : ∀ x ∈ t.order, x = 0 ∨ (1 ≤ x ∧ x ≤ 2147483648)
 sz : t.size ≤ 65537
variable {top : Nd}
theorem Good.of_with {q : Int} {p : Nd} {ks : List Nd} (g : Good top) (ho : top.order.Nodup) (hf : Nd.find q top = some p) (hp : p.grp = true) (hk : Alls (fun _ g ks => ks ≠ [] → g = true) ks)
  (hh : Nd.depth q top + 1 + heights ks ≤ 65) (hi : ∀ x ∈ orders ks, x = 0 ∨ (1 ≤ x ∧ x ≤ 2147483648)) (hs : top.size + sizes ks ≤ 65537 + sizes p.kids) : Good (Nd.with_ q ks top) := by
 refine ⟨g.gp.with_ (Ga.of top ho fun m hm => by rw [hf] at hm; cases hm; exact hp) hk, ?_, fun x hx => (order_with ks top hx).elim (g.ids x) (hi x), ?_⟩
 ·have := height_with ks top p hf ho
  have := g.ht
  omega
 ·have := size_with ks top p hf ho
  omega
theorem Good.deep {q : Int} {p : Nd} (g : Good top) (hf : Nd.find q top = some p) : Nd.depth q top + 1 + heights p.kids ≤ 65 := by
 have := (depth_height top p hf).2
 rw [height_eq p] at this
 have := g.ht
 omega
theorem Good.kids {q : Int} {p : Nd} (g : Good top) (hf : Nd.find q top = some p) {x : Int} (h : x ∈ orders p.kids) : x = 0 ∨ (1 ≤ x ∧ x ≤ 2147483648) := g.ids x (find_order hf (orders_kids h))
theorem Good.add (g : Good top) (ho : top.order.Nodup) (p ix : Int) (n : Nd) : Good (Nd.add top p ix n).1 := by
 rw [Nd.add]
 split
 ·exact g
 ·rename_i m hm
  split
  ·exact g
  ·rename_i hg
   split
   ·exact g
   ·split
    ·exact g
    ·rename_i hf
     have hf0 : Nd.fits top n (Nd.depth p top + 1) = 0 := Decidable.of_not_not hf
     obtain ⟨_, hx, hsz⟩ := fits_ok hf0
     have hh := fits_height hf0
     have hd := g.deep hm
     have hmp := (g.gp.found hm).kids
     refine g.of_with ho hm (by simpa using hg) (Alls.app (hmp.take _) (by rw [Alls]; exact ⟨Gp.fits hf0, hmp.drop _⟩)) ?_ (fun x hxm => ?_) ?_
     ·rw [heights_app, heights]
      have := heights_take m.kids ix.toNat
      have := heights_drop m.kids ix.toNat
      omega
     ·rw [orders_app, orders] at hxm
      rcases List.mem_append.1 hxm with h | h
      ·exact g.kids hm (orders_take h)
      ·rcases List.mem_append.1 h with h | h
       ·exact .inr (hx x h).2
       ·exact g.kids hm (orders_drop h)
     ·rw [sizes_app, sizes]
      have := sizes_td m.kids ix.toNat
      omega
end Nd
end Go.Tr

namespace Go.Tr
open Go.Sl Go.Ls
section
variable {A : Ar} {top : Nd}
theorem Abs.rem (h : Abs A top) (i : Int) : ((Nd.remove top i).2.2.2.2 ≠ 0 ∧ (Nd.remove top i).1 = top) ∨ ∃ (p : Nd) (k : Nat) (hk : k < p.kids.length), i ≠ 0 ∧ (p.kids[k]).id = i ∧ Nd.find i top = some p.kids[k] ∧ Nd.whr i top = some (p.id, (k : Int)) ∧ Nd.find p.id top = some p ∧
  Nd.remove top i = (Nd.with_ p.id (p.kids.take k ++ p.kids.drop (k + 1)) top, p.kids[k], p.id, (k : Int), 0) ∧ (Nd.with_ p.id (p.kids.take k ++ p.kids.drop (k + 1)) top).order.Nodup ∧ (p.kids[k]).order.Nodup ∧ ∀ x ∈ (Nd.with_ p.id (p.kids.take k ++ p.kids.drop (k + 1)) top).order, x ∉ (p.kids[k]).order := by
 by_cases h0 : i = 0
 ·refine .inl ?_
  rw [Nd.remove, if_pos h0]
  exact ⟨by show (30 : Int) ≠ 0; decide, rfl⟩
 rcases h.cases i with ⟨_, hx⟩ | ⟨q, _, hq, hid, _⟩
 ·refine .inl ?_
  rw [Nd.remove, if_neg h0, Nd.find_none _ _ hx]
  exact ⟨by show (31 : Int) ≠ 0; decide, rfl⟩
 ·refine .inr ?_
  have hq0 : q ≠ 0 := fun e => h0 (by rw [← hid]; exact (h.ne0 hq).2 e)
  obtain ⟨y, k, yp, ny, n', R, RO, hk, hl, f, hkn, ht, hidn, hfi, hw, hfy, hrem⟩ := h.node hq hq0
  have hcut := (h.cut hl f hk hkn ht (.slice none 0 0)).2
  obtain ⟨o1, o2, o3⟩ := hcut.od h
  subst hkn
  rw [hid] at hidn hfi hw hrem
  exact ⟨ny, k, hk, h0, hidn, hfi, hw, hfy, hrem, o1, o2, o3⟩
end
namespace Nd
variable {A : Ar} {top : Nd}
theorem rem_sizes {l : List Nd} {k : Nat} (hk : k < l.length) : sizes (l.take k ++ l.drop (k + 1)) + (l[k]).size = sizes l := by
 have h1 := sizes_td l k
 rw [drop_eq hk, sizes] at h1
 rw [sizes_app]; omega
theorem rem_heights (l : List Nd) (k : Nat) : heights (l.take k ++ l.drop (k + 1)) ≤ heights l := by
 rw [heights_app]
 have := heights_take l k
 have := heights_drop l (k + 1)
 omega
theorem rem_orders {l : List Nd} {k : Nat} {x : Int} (h : x ∈ orders (l.take k ++ l.drop (k + 1))) : x ∈ orders l := by
 rw [orders_app] at h
 exact (List.mem_append.1 h).elim orders_take orders_drop
theorem Good.rem {p : Nd} {k : Nat} (g : Good top) (ho : top.order.Nodup) (hk : k < p.kids.length) (hf : Nd.find p.id top = some p) : Good (Nd.with_ p.id (p.kids.take k ++ p.kids.drop (k + 1)) top) := by
 have hgp := g.gp.found hf
 have hd := g.deep hf
 refine g.of_with ho hf (hgp.self fun e => by rw [e] at hk; exact Nat.not_lt_zero _ hk) ((hgp.kids.take _).app (hgp.kids.drop _)) ?_ (fun x hx => g.kids hf (rem_orders hx)) ?_
 ·have := rem_heights p.kids k
  omega
 ·have := rem_sizes hk
  have := g.sz
  omega
theorem Good.remove (g : Good top) (hA : Abs A top) (i : Int) : Good (Nd.remove top i).1 := by
 rcases hA.rem i with ⟨_, e⟩ | ⟨p, k, hk, _, _, _, _, hf, e, _⟩
 ·rw [e]; exact g
 ·rw [e]; exact g.rem hA.od hk hf
theorem find_in {i : Int} {n m : Nd} (hf : Nd.find i n = some m) (hg : Ga i n) : m.grp = true := (All.find n m hg hf).self (find_id i n m hf).1
theorem Good.move (g : Good top) (hA : Abs A top) (i p ix : Int) : Good (Nd.move top i p ix).1 := by
 rcases hA.rem i with ⟨h0, _⟩ | ⟨y, k, hk, h0, hid, hfi, hw, hf, e, o1, o2, o3⟩
 ·rw [Nd.move, if_pos h0]; exact g
 have g1 := g.rem hA.od hk hf
 have hsz := size_with (y.kids.take k ++ y.kids.drop (k + 1)) top y hf hA.od
 have hrs := rem_sizes hk
 have hgn : Gp y.kids[k] := g.gp.found hfi
 rw [Nd.move, e]
 simp only [ne_eq, not_true_eq_false, if_false]
 split
 ·exact g
 ·rename_i m hm
  split
  ·exact g
  ·rename_i hg
   split
   ·exact g
   ·split
    ·exact g
    ·split
     ·exact g
     ·rename_i hd
      have hga : Ga p (Nd.with_ y.id (y.kids.take k ++ y.kids.drop (k + 1)) top) := by
       have := Ga.remove (Ga.of top hA.od fun m' hm' => by rw [hm] at hm'; cases hm'; simpa using hg) (j := p) i
       rw [e] at this; exact this
      generalize Nd.with_ y.id (y.kids.take k ++ y.kids.drop (k + 1)) top = t1 at *
      cases hf1 : Nd.find p t1 with
      | none =>
       have hn : p ∉ t1.order := fun hmm => by
        have := (find_some p t1).2 hmm
        rw [hf1] at this; cases this
       rw [with_none p _ t1 hn]; exact g1
      | some q =>
       rw [Option.getD_some]
       have hd1 := g1.deep hf1
       have hgq := (g1.gp.found hf1).kids
       refine g1.of_with o1 hf1 (find_in hf1 hga) ((hgq.take _).app (by rw [Alls]; exact ⟨hgn, hgq.drop _⟩)) ?_ (fun x hx => ?_) ?_
       ·rw [heights_app, heights]
        have := heights_take q.kids ix.toNat
        have := heights_drop q.kids ix.toNat
        omega
       ·rw [orders_app, orders] at hx
        rcases List.mem_append.1 hx with h | h
        ·exact g1.kids hf1 (orders_take h)
        ·rcases List.mem_append.1 h with h | h
         ·exact g.ids x (find_order hfi h)
         ·exact g1.kids hf1 (orders_drop h)
       ·rw [sizes_app, sizes]
        have := sizes_td q.kids ix.toNat
        have := g.sz
        omega
theorem Good.wrap (g : Good top) (ho : top.order.Nodup) (i p ix c : Int) : Good (Nd.wrap top i p ix c).1 := by
 rw [Nd.wrap]
 split
 ·exact g
 ·rename_i m hm
  split
  ·exact g
  ·rename_i hg
   split
   ·exact g
   ·rename_i hb
    split
    ·exact g
    ·rename_i hf
     have hf0 : Nd.fits top (.mk i true []) (Nd.depth p top + 1) = 0 := Decidable.of_not_not hf
     obtain ⟨_, hx, hsz⟩ := fits_ok hf0
     split
     ·exact g
     ·rename_i hh
      have hd := g.deep hm
      have hmp := (g.gp.found hm).kids
      rw [Nd.height] at hh
      have hz : (Nd.mk i true []).size = 1 := by simp [Nd.size, sizes]
      have hx1 := hx i (by simp [order, orders])
      refine g.of_with ho hm (by simpa using hg) (Alls.app (hmp.take _) (by rw [Alls, All]; exact ⟨⟨fun _ => rfl, (hmp.drop _).take _⟩, hmp.drop _⟩)) ?_ (fun x hxm => ?_) ?_
      ·rw [heights_app, heights, Nd.height]
       have := heights_take m.kids ix.toNat
       have := heights_drop m.kids (ix.toNat + c.toNat)
       omega
      ·rw [orders_app, orders, order] at hxm
       rcases List.mem_append.1 hxm with h | h
       ·exact g.kids hm (orders_take h)
       ·rcases List.mem_append.1 h with h | h
        ·rcases List.mem_cons.1 h with h | h
         ·subst h; exact .inr hx1.2
         ·exact g.kids hm (orders_drop (orders_take h))
        ·exact g.kids hm (orders_drop h)
      ·rw [sizes_app, sizes, Nd.size]
       have h1 := sizes_td m.kids ix.toNat
       have h2 := sizes_td (m.kids.drop ix.toNat) c.toNat
       rw [List.drop_drop] at h2
       omega
theorem Good.unwrap (g : Good top) (hA : Abs A top) (i : Int) : Good (Nd.unwrap top i).1 := by
 rcases hA.rem i with ⟨h0, _⟩ | ⟨y, k, hk, h0, hid, hfi, hw, hf, e, _⟩
 ·rw [Nd.unwrap, if_pos h0]; exact g
 rw [Nd.unwrap, e]
 simp only [ne_eq, not_true_eq_false, if_false]
 split
 ·exact g
 ·rename_i hg
  have hd := g.deep hf
  have hgp := g.gp.found hf
  have hgn := g.gp.found hfi
  have hle : (y.kids[k]).height ≤ heights y.kids := by
   have := heights_drop y.kids k
   rw [drop_eq hk, heights] at this
   omega
  have hhe := height_eq y.kids[k]
  rw [hf, Option.getD_some, Int.toNat_natCast]
  refine g.of_with hA.od hf (hgp.self fun e => by rw [e] at hk; exact Nat.not_lt_zero _ hk) ((hgp.kids.take _).app (hgn.kids.app (hgp.kids.drop _))) ?_ (fun x hx => ?_) ?_
  ·rw [heights_app, heights_app]
   have := heights_take y.kids k
   have := heights_drop y.kids (k + 1)
   omega
  ·rw [orders_app, orders_app] at hx
   rcases List.mem_append.1 hx with h | h
   ·exact g.kids hf (orders_take h)
   ·rcases List.mem_append.1 h with h | h
    ·exact g.ids x (find_order hfi (orders_kids h))
    ·exact g.kids hf (orders_drop h)
  ·rw [sizes_app, sizes_app]
   have h1 := rem_sizes hk
   rw [sizes_app] at h1
   have h2 : (y.kids[k]).size = 1 + sizes (y.kids[k]).kids := by generalize y.kids[k] = n; cases n; rfl
   have := g.sz
   omega
theorem Good.step {top' : Nd} (g : Good top) (hA : Abs A top) (h : Step1 top top') : Good top' := by
 rcases h with rfl | ⟨p, ix, n, rfl⟩ | ⟨i, rfl⟩ | ⟨i, p, ix, rfl⟩ | ⟨i, p, ix, c, rfl⟩ | ⟨i, rfl⟩
 ·exact g
 ·exact g.add hA.od p ix n
 ·exact g.remove hA i
 ·exact g.move hA i p ix
 ·exact g.wrap hA.od i p ix c
 ·exact g.unwrap hA i
theorem Rch.good (h : Rch top) : Good top := by
 induction h with
 | start => exact ⟨by rw [Gp, All, Alls]; exact ⟨fun _ => rfl, trivial⟩, by simp [Nd.height, heights], fun x hx => by simp [order, orders] at hx; exact .inl hx, by simp [Nd.size, sizes]⟩
 | step _ hA hs ih => exact ih.step hA hs
end Nd
end Go.Tr

namespace Go.Tr
open Go.Sl Go.Ls
namespace Nd
end Nd
section
variable {B : Ar} {t : Nd}
end
section
variable {A B : Ar} {top t1 : Nd}
end
section
variable {A B : Ar} {top t1 : Nd}
end
section
variable {A B : Ar} {top t1 : Nd}
end
section
variable {A B : Ar} {top t1 : Nd}
end
section
variable {A B : Ar} {top t1 : Nd}
end
end Go.Tr

namespace Go.Tr
open Go.Sl Go.Ls
def Cel.key (c : Cel) : Int × Bool × Int × List Int := (c.id, c.grp, c.par, c.kids)
structure Ar.Like (A C : Ar) : Prop where
 key : C.cells.map Cel.key = A.cells.map Cel.key
 free : C.free = A.free
 at_ : C.at_ = A.at_
 cnt : C.cnt = A.cnt
namespace Ar.Like
variable {A C : Ar}
end Ar.Like
end Go.Tr

namespace Go.Proofs.YtggcpoleklcmkaaGreatDoor
open Go.Sl Go.Ls Go.Tr
attribute [local irreducible] WC WL WX WK WA WAK Val Ctr RunRes ResIs Rd At sl box pt Exit.then Exit.inBlock bodyPost Code.wp wpList
end Go.Proofs.YtggcpoleklcmkaaGreatDoor

namespace Go.Sl
end Go.Sl
namespace Go.Tr
open Go.Sl Go.Ls
end Go.Tr
namespace Go.Proofs.YtggcpoleklcmkaaGreatDoor
open Go.Sl Go.Ls Go.Tr
attribute [local irreducible] WC WL WX WK WA WAK Val Ctr RunRes ResIs Rd At sl box pt Exit.then Exit.inBlock bodyPost Code.wp wpList
end Go.Proofs.YtggcpoleklcmkaaGreatDoor

namespace Go.Dc
open Go.Sl Go.Ls
theorem i64z : I64 0 := ⟨by decide, by decide⟩
structure Pt where (x y : Int) deriving DecidableEq
structure Col where (r g b a : Fin 256) deriving DecidableEq
structure Stp where (pos : Int) (col : Col) deriving DecidableEq
structure Pnt where (kind : Int) (col : Col) (frm to : Pt) (stops : List Stp) deriving DecidableEq
structure Sty where (fill pen : Pnt) (rule half cap : Int) (dash : List Int) (phase opac mode : Int) deriving DecidableEq
structure Sg where (kind : Int) (p0 p1 p2 : Pt) deriving DecidableEq
structure Mtx where (a b c d e f : Int) deriving DecidableEq
structure Atr where (mtx : Mtx) (sty : Sty) (path : List Sg) deriving DecidableEq
structure Ent where (id : Int) (grp : Bool) (kids : Int) (atr : Atr) deriving DecidableEq
structure Cm where (kind id parent index count i k : Int) (ents : List Ent) (atr : Atr) (seg : Sg) (point : Pt) deriving DecidableEq
/-! cells -/
abbrev Pt.cs (p : Pt) : List Value := [vi p.x, vi p.y]
abbrev Col.cs (c : Col) : List Value := [byt c.r, byt c.g, byt c.b, byt c.a]
abbrev Stp.cs (s : Stp) : List Value := [vi s.pos, byt s.col.r, byt s.col.g, byt s.col.b, byt s.col.a]
abbrev Sg.cs (s : Sg) : List Value := [vi s.kind, vi s.p0.x, vi s.p0.y, vi s.p1.x, vi s.p1.y, vi s.p2.x, vi s.p2.y]
abbrev Mtx.cs (m : Mtx) : List Value := [vi m.a, vi m.b, vi m.c, vi m.d, vi m.e, vi m.f]
abbrev Pnt.cs (p : Pnt) (t : Value) : List Value := [vi p.kind, byt p.col.r, byt p.col.g, byt p.col.b, byt p.col.a, vi p.frm.x, vi p.frm.y, vi p.to.x, vi p.to.y, t]
abbrev Sty.cs (s : Sty) (t u d : Value) : List Value := vi s.fill.kind :: byt s.fill.col.r :: byt s.fill.col.g :: byt s.fill.col.b :: byt s.fill.col.a :: vi s.fill.frm.x :: vi s.fill.frm.y :: vi s.fill.to.x :: vi s.fill.to.y :: t :: vi s.pen.kind :: byt s.pen.col.r :: byt s.pen.col.g :: byt s.pen.col.b :: byt s.pen.col.a :: vi s.pen.frm.x :: vi s.pen.frm.y :: vi s.pen.to.x :: vi s.pen.to.y :: u :: vi s.rule :: vi s.half :: vi s.cap :: d :: vi s.phase :: vi s.opac :: vi s.mode :: []
abbrev Atr.cs (a : Atr) (t u d q : Value) : List Value := vi a.mtx.a :: vi a.mtx.b :: vi a.mtx.c :: vi a.mtx.d :: vi a.mtx.e :: vi a.mtx.f :: vi a.sty.fill.kind :: byt a.sty.fill.col.r :: byt a.sty.fill.col.g :: byt a.sty.fill.col.b :: byt a.sty.fill.col.a :: vi a.sty.fill.frm.x :: vi a.sty.fill.frm.y :: vi a.sty.fill.to.x :: vi a.sty.fill.to.y :: t :: vi a.sty.pen.kind :: byt a.sty.pen.col.r :: byt a.sty.pen.col.g :: byt a.sty.pen.col.b :: byt a.sty.pen.col.a :: vi a.sty.pen.frm.x :: vi a.sty.pen.frm.y :: vi a.sty.pen.to.x :: vi a.sty.pen.to.y :: u :: vi a.sty.rule :: vi a.sty.half :: vi a.sty.cap :: d :: vi a.sty.phase :: vi a.sty.opac :: vi a.sty.mode :: q :: []
abbrev Ent.cs (x : Ent) (t u d q : Value) : List Value := vi x.id :: .bool x.grp :: vi x.kids :: vi x.atr.mtx.a :: vi x.atr.mtx.b :: vi x.atr.mtx.c :: vi x.atr.mtx.d :: vi x.atr.mtx.e :: vi x.atr.mtx.f :: vi x.atr.sty.fill.kind :: byt x.atr.sty.fill.col.r :: byt x.atr.sty.fill.col.g :: byt x.atr.sty.fill.col.b :: byt x.atr.sty.fill.col.a :: vi x.atr.sty.fill.frm.x :: vi x.atr.sty.fill.frm.y :: vi x.atr.sty.fill.to.x :: vi x.atr.sty.fill.to.y :: t :: vi x.atr.sty.pen.kind :: byt x.atr.sty.pen.col.r :: byt x.atr.sty.pen.col.g :: byt x.atr.sty.pen.col.b :: byt x.atr.sty.pen.col.a :: vi x.atr.sty.pen.frm.x :: vi x.atr.sty.pen.frm.y :: vi x.atr.sty.pen.to.x :: vi x.atr.sty.pen.to.y :: u :: vi x.atr.sty.rule :: vi x.atr.sty.half :: vi x.atr.sty.cap :: d :: vi x.atr.sty.phase :: vi x.atr.sty.opac :: vi x.atr.sty.mode :: q :: []
abbrev Cm.cs (c : Cm) (e t u d q : Value) : List Value := vi c.kind :: vi c.id :: vi c.parent :: vi c.index :: vi c.count :: vi c.i :: vi c.k :: e :: vi c.atr.mtx.a :: vi c.atr.mtx.b :: vi c.atr.mtx.c :: vi c.atr.mtx.d :: vi c.atr.mtx.e :: vi c.atr.mtx.f :: vi c.atr.sty.fill.kind :: byt c.atr.sty.fill.col.r :: byt c.atr.sty.fill.col.g :: byt c.atr.sty.fill.col.b :: byt c.atr.sty.fill.col.a :: vi c.atr.sty.fill.frm.x :: vi c.atr.sty.fill.frm.y :: vi c.atr.sty.fill.to.x :: vi c.atr.sty.fill.to.y :: t :: vi c.atr.sty.pen.kind :: byt c.atr.sty.pen.col.r :: byt c.atr.sty.pen.col.g :: byt c.atr.sty.pen.col.b :: byt c.atr.sty.pen.col.a :: vi c.atr.sty.pen.frm.x :: vi c.atr.sty.pen.frm.y :: vi c.atr.sty.pen.to.x :: vi c.atr.sty.pen.to.y :: u :: vi c.atr.sty.rule :: vi c.atr.sty.half :: vi c.atr.sty.cap :: d :: vi c.atr.sty.phase :: vi c.atr.sty.opac :: vi c.atr.sty.mode :: q :: vi c.seg.kind :: vi c.seg.p0.x :: vi c.seg.p0.y :: vi c.seg.p1.x :: vi c.seg.p1.y :: vi c.seg.p2.x :: vi c.seg.p2.y :: vi c.point.x :: vi c.point.y :: []
def Pt.ok (p : Pt) : Prop := I64 p.x ∧ I64 p.y
def Pt.rep : Rep Pt := fun _ p cs => cs = p.cs ∧ p.ok
def Stp.rep : Rep Stp := fun _ s cs => cs = s.cs ∧ I64 s.pos
def Sg.ok (s : Sg) : Prop := I64 s.kind ∧ s.p0.ok ∧ s.p1.ok ∧ s.p2.ok
def Sg.rep : Rep Sg := fun _ s cs => cs = s.cs ∧ s.ok
def Mtx.ok (m : Mtx) : Prop := I64 m.a ∧ I64 m.b ∧ I64 m.c ∧ I64 m.d ∧ I64 m.e ∧ I64 m.f
structure Pnt.at_ (I : Mem) (p : Pnt) (t : Value) : Prop where
 kind : I64 p.kind
 frm : p.frm.ok
 to : p.to.ok
 stops : LsAt Stp.rep I p.stops t
structure Sty.at_ (I : Mem) (s : Sty) (t u d : Value) : Prop where
 fill : s.fill.at_ I t
 pen : s.pen.at_ I u
 rule : I64 s.rule
 half : I64 s.half
 cap : I64 s.cap
 dash : LsAt Int.rep I s.dash d
 phase : I64 s.phase
 opac : I64 s.opac
 mode : I64 s.mode
structure Atr.at_ (I : Mem) (a : Atr) (t u d q : Value) : Prop where
 mtx : a.mtx.ok
 sty : a.sty.at_ I t u d
 path : LsAt Sg.rep I a.path q
structure Ent.at_ (I : Mem) (x : Ent) (t u d q : Value) : Prop where
 id : I64 x.id
 kids : I64 x.kids
 atr : x.atr.at_ I t u d q
def Atr.rep : Rep Atr := fun I s cs => ∃ t u d q, cs = s.cs t u d q ∧ s.at_ I t u d q
def Ent.rep : Rep Ent := fun I s cs => ∃ t u d q, cs = s.cs t u d q ∧ s.at_ I t u d q
structure Cm.at_ (I : Mem) (c : Cm) (e t u d q : Value) : Prop where
 kind : I64 c.kind
 id : I64 c.id
 parent : I64 c.parent
 index : I64 c.index
 count : I64 c.count
 i : I64 c.i
 k : I64 c.k
 ents : LsAt Ent.rep I c.ents e
 atr : c.atr.at_ I t u d q
 seg : c.seg.ok
 point : c.point.ok
def Cm.rep : Rep Cm := fun I s cs => ∃ e t u d q, cs = s.cs e t u d q ∧ s.at_ I e t u d q
instance : RepMono Pt.rep := ⟨fun h _ => h⟩
instance : RepMono Stp.rep := ⟨fun h _ => h⟩
instance : RepMono Sg.rep := ⟨fun h _ => h⟩
theorem Pnt.at_.mono {I I' : Mem} {p : Pnt} {t : Value} (h : p.at_ I t) (hI : I.le I') : p.at_ I' t := ⟨h.kind, h.frm, h.to, h.stops.mono hI⟩
theorem Sty.at_.mono {I I' : Mem} {p : Sty} {t u d : Value} (h : p.at_ I t u d) (hI : I.le I') : p.at_ I' t u d := ⟨h.fill.mono hI, h.pen.mono hI, h.rule, h.half, h.cap, h.dash.mono hI, h.phase, h.opac, h.mode⟩
theorem Atr.at_.mono {I I' : Mem} {p : Atr} {t u d q : Value} (h : p.at_ I t u d q) (hI : I.le I') : p.at_ I' t u d q := ⟨h.mtx, h.sty.mono hI, h.path.mono hI⟩
theorem Ent.at_.mono {I I' : Mem} {p : Ent} {t u d q : Value} (h : p.at_ I t u d q) (hI : I.le I') : p.at_ I' t u d q := ⟨h.id, h.kids, h.atr.mono hI⟩
instance : RepMono Ent.rep := ⟨fun ⟨t, u, d, q, h1, h2⟩ hI => ⟨t, u, d, q, h1, h2.mono hI⟩⟩
theorem Cm.at_.mono {I I' : Mem} {p : Cm} {e t u d q : Value} (h : p.at_ I e t u d q) (hI : I.le I') : p.at_ I' e t u d q :=
 ⟨h.kind, h.id, h.parent, h.index, h.count, h.i, h.k, h.ents.mono hI, h.atr.mono hI, h.seg, h.point⟩
instance : RepMono Cm.rep := ⟨fun ⟨e, t, u, d, q, h1, h2⟩ hI => ⟨e, t, u, d, q, h1, h2.mono hI⟩⟩
theorem Pnt.at_.sl {I : Mem} {p : Pnt} {t : Value} (h : p.at_ I t) : ∃ a1 c1, t = .slice a1 p.stops.length c1 := h.stops.sl
theorem Sty.at_.sl {I : Mem} {s : Sty} {t u d : Value} (h : s.at_ I t u d) : ∃ a1 c1 a2 c2 a3 c3, t = .slice a1 s.fill.stops.length c1 ∧ u = .slice a2 s.pen.stops.length c2 ∧ d = .slice a3 s.dash.length c3 := by
 obtain ⟨a1, c1, h1⟩ := h.fill.stops.sl
 obtain ⟨a2, c2, h2⟩ := h.pen.stops.sl
 obtain ⟨a3, c3, h3⟩ := h.dash.sl
 exact ⟨a1, c1, a2, c2, a3, c3, h1, h2, h3⟩
theorem Atr.at_.sl {I : Mem} {s : Atr} {t u d q : Value} (h : s.at_ I t u d q) : ∃ a1 c1 a2 c2 a3 c3 a4 c4, t = .slice a1 s.sty.fill.stops.length c1 ∧ u = .slice a2 s.sty.pen.stops.length c2 ∧ d = .slice a3 s.sty.dash.length c3 ∧ q = .slice a4 s.path.length c4 := by
 obtain ⟨a1, c1, a2, c2, a3, c3, h1, h2, h3⟩ := h.sty.sl
 obtain ⟨a4, c4, h4⟩ := h.path.sl
 exact ⟨a1, c1, a2, c2, a3, c3, a4, c4, h1, h2, h3, h4⟩
theorem Ent.at_.sl {I : Mem} {s : Ent} {t u d q : Value} (h : s.at_ I t u d q) : ∃ a1 c1 a2 c2 a3 c3 a4 c4, t = .slice a1 s.atr.sty.fill.stops.length c1 ∧ u = .slice a2 s.atr.sty.pen.stops.length c2 ∧ d = .slice a3 s.atr.sty.dash.length c3 ∧ q = .slice a4 s.atr.path.length c4 := h.atr.sl
theorem Cm.at_.sl {I : Mem} {s : Cm} {e t u d q : Value} (h : s.at_ I e t u d q) : ∃ a0 c0 a1 c1 a2 c2 a3 c3 a4 c4, e = .slice a0 s.ents.length c0 ∧ t = .slice a1 s.atr.sty.fill.stops.length c1 ∧ u = .slice a2 s.atr.sty.pen.stops.length c2 ∧ d = .slice a3 s.atr.sty.dash.length c3 ∧ q = .slice a4 s.atr.path.length c4 := by
 obtain ⟨a0, c0, h0⟩ := h.ents.sl
 obtain ⟨a1, c1, a2, c2, a3, c3, a4, c4, h⟩ := h.atr.sl
 exact ⟨a0, c0, a1, c1, a2, c2, a3, c3, a4, c4, h0, h⟩
/-! zeros -/
abbrev Pt.z : Pt := ⟨0, 0⟩
abbrev Col.z : Col := ⟨0, 0, 0, 0⟩
abbrev Pnt.z : Pnt := ⟨0, Col.z, Pt.z, Pt.z, []⟩
abbrev Sty.z : Sty := ⟨Pnt.z, Pnt.z, 0, 0, 0, [], 0, 0, 0⟩
abbrev Sg.z : Sg := ⟨0, Pt.z, Pt.z, Pt.z⟩
abbrev Mtx.z : Mtx := ⟨0, 0, 0, 0, 0, 0⟩
abbrev Atr.z : Atr := ⟨Mtx.z, Sty.z, []⟩
abbrev Cm.z : Cm := ⟨0, 0, 0, 0, 0, 0, 0, [], Atr.z, Sg.z, Pt.z⟩
theorem Pt.z_ok : Pt.z.ok := ⟨i64z, i64z⟩
theorem Sg.z_ok : Sg.z.ok := ⟨i64z, Pt.z_ok, Pt.z_ok, Pt.z_ok⟩
theorem Mtx.z_ok : Mtx.z.ok := ⟨i64z, i64z, i64z, i64z, i64z, i64z⟩
theorem Pnt.z_at (I : Mem) : Pnt.z.at_ I (.slice none 0 0) := ⟨i64z, Pt.z_ok, Pt.z_ok, LsAt.nil _ _⟩
theorem Sty.z_at (I : Mem) : Sty.z.at_ I (.slice none 0 0) (.slice none 0 0) (.slice none 0 0) := ⟨Pnt.z_at I, Pnt.z_at I, i64z, i64z, i64z, LsAt.nil _ _, i64z, i64z, i64z⟩
theorem Atr.z_at (I : Mem) : Atr.z.at_ I (.slice none 0 0) (.slice none 0 0) (.slice none 0 0) (.slice none 0 0) := ⟨Mtx.z_ok, Sty.z_at I, LsAt.nil _ _⟩
instance : RepLen Pt.rep 2 := ⟨fun h => by rw [h.1]; rfl⟩
instance : RepLen Stp.rep 5 := ⟨fun h => by rw [h.1]; rfl⟩
instance : RepLen Sg.rep 7 := ⟨fun h => by rw [h.1]; rfl⟩
instance : RepLen Ent.rep 37 := ⟨fun ⟨t, u, d, q, h, _⟩ => by rw [h]; rfl⟩
instance : RepLen Cm.rep 51 := ⟨fun ⟨e, t, u, d, q, h, _⟩ => by rw [h]; rfl⟩
end Go.Dc

namespace Go.Dc
open Go.Sl Go.Ls Go.Tr
/-! what is right -/
def Room (a : Int) : Prop := -2147483648 ≤ a ∧ a ≤ 2147483648
instance (a : Int) : Decidable (Room a) := by unfold Room; infer_instance
def Ety (a : Int) : Prop := -16777216 ≤ a ∧ a ≤ 16777216
instance (a : Int) : Decidable (Ety a) := by unfold Ety; infer_instance
def Pt.inn (p : Pt) : Prop := Room p.x ∧ Room p.y
instance (p : Pt) : Decidable p.inn := by unfold Pt.inn; infer_instance
def Mtx.right (m : Mtx) : Prop := (Ety m.a ∧ Ety m.b ∧ Ety m.c ∧ Ety m.d) ∧ Room m.e ∧ Room m.f
instance (m : Mtx) : Decidable m.right := by unfold Mtx.right; infer_instance
def Col.right (c : Col) : Prop := c.r.val ≤ c.a.val ∧ c.g.val ≤ c.a.val ∧ c.b.val ≤ c.a.val
instance (c : Col) : Decidable c.right := by unfold Col.right; infer_instance
def Pt.near (p : Pt) : Prop := (-16777216 ≤ p.x ∧ -16777216 ≤ p.y) ∧ p.x ≤ 16777216 ∧ p.y ≤ 16777216
instance (p : Pt) : Decidable p.near := by unfold Pt.near; infer_instance
def Stp.fits (before : Option Stp) (s : Stp) : Prop := 0 ≤ s.pos ∧ s.pos ≤ 65536 ∧ s.col.right ∧ ∀ q, before = some q → q.pos ≤ s.pos
instance (b : Option Stp) (s : Stp) : Decidable (s.fits b) := by
 unfold Stp.fits
 cases b with
 | none => exact decidable_of_iff (0 ≤ s.pos ∧ s.pos ≤ 65536 ∧ s.col.right) ⟨fun h => ⟨h.1, h.2.1, h.2.2, fun _ e => by cases e⟩, fun h => ⟨h.1, h.2.1, h.2.2.1⟩⟩
 | some q => exact decidable_of_iff (0 ≤ s.pos ∧ s.pos ≤ 65536 ∧ s.col.right ∧ q.pos ≤ s.pos) ⟨fun h => ⟨h.1, h.2.1, h.2.2.1, fun _ e => by cases e; exact h.2.2.2⟩, fun h => ⟨h.1, h.2.1, h.2.2.1, h.2.2.2 _ rfl⟩⟩
def stopsGo : Bool → Option Stp → List Stp → Bool
 | ok, _, [] => ok
 | ok, b, s :: r => stopsGo (ok && decide (s.fits b)) (some s) r
def stopsCheck (l : List Stp) : Int := if stopsGo (decide (1 ≤ l.length ∧ l.length ≤ 16)) none l then 0 else 30
def Pnt.shaded (p : Pnt) : Prop := p.kind = 2 ∨ p.kind = 3
instance (p : Pnt) : Decidable p.shaded := by unfold Pnt.shaded; infer_instance
def Pnt.check (p : Pnt) : Int :=
 if p.kind < 0 ∨ 3 < p.kind then 33
 else if ¬ p.col.right ∨ (p.kind ≠ 1 ∧ p.col ≠ Col.z) then 30
 else if ¬ p.shaded ∧ (p.frm ≠ Pt.z ∨ p.to ≠ Pt.z ∨ 0 < p.stops.length) then 30
 else if p.shaded ∧ (¬ p.frm.near ∨ ¬ p.to.near ∨ p.frm = p.to) then 30
 else if p.shaded then stopsCheck p.stops else 0
def dashPart (n : Int) : Prop := 1 ≤ n ∧ n ≤ 1048576
instance (n : Int) : Decidable (dashPart n) := by unfold dashPart; infer_instance
def isum : List Int → Int | [] => 0 | x :: l => x + isum l
def dashCheck (l : List Int) (phase : Int) : Int :=
 if l.length = 0 ∧ phase = 0 then 0
 else if l.length = 0 ∨ 8 < l.length ∨ l.length % 2 ≠ 0 then 30
 else if ¬ ∀ n ∈ l, dashPart n then 30
 else if phase < 0 ∨ isum l ≤ phase then 30 else 0
def Sty.nums (s : Sty) : Prop := (1 ≤ s.rule ∧ s.rule ≤ 2) ∧ (0 ≤ s.half ∧ s.half ≤ 32768) ∧ (0 ≤ s.cap ∧ s.cap ≤ 2) ∧ (0 ≤ s.opac ∧ s.opac ≤ 255) ∧ (0 ≤ s.mode ∧ s.mode ≤ 4)
instance (s : Sty) : Decidable s.nums := by unfold Sty.nums; infer_instance
def Sty.check (s : Sty) : Int :=
 if s.fill.check ≠ 0 then s.fill.check else if s.pen.check ≠ 0 then s.pen.check else if ¬ s.nums then 30 else dashCheck s.dash s.phase
def need (k : Int) : Nat := if k = 1 ∨ k = 2 then 1 else if k = 3 then 2 else if k = 4 then 3 else 0
def Sg.check (open_ : Bool) (s : Sg) : Int :=
 if s.kind < 1 ∨ 5 < s.kind ∨ (open_ = false ∧ s.kind ≠ 1) then 33
 else if (need s.kind ≤ 0 ∧ s.p0 ≠ Pt.z) ∨ (need s.kind ≤ 1 ∧ s.p1 ≠ Pt.z) ∨ (need s.kind ≤ 2 ∧ s.p2 ≠ Pt.z) then 33
 else if (0 < need s.kind ∧ ¬ s.p0.inn) ∨ (1 < need s.kind ∧ ¬ s.p1.inn) ∨ (2 < need s.kind ∧ ¬ s.p2.inn) then 30 else 0
def pathGo : Bool → List Sg → Int
 | _, [] => 0
 | o, s :: r => if s.check o ≠ 0 then s.check o else pathGo (decide (s.kind ≠ 5)) r
def pathCheck (l : List Sg) : Int := if 4096 < l.length then 36 else pathGo false l
def Atr.check (a : Atr) (g : Bool) : Int :=
 if ¬ a.mtx.right then 10 else if a.sty.check ≠ 0 then a.sty.check else if pathCheck a.path ≠ 0 then pathCheck a.path else if g = true ∧ 0 < a.path.length then 33 else 0
/-! entries -/
def spanGo (n : Int) : Int → Int → List Ent → Int
 | _, _, [] => -1
 | o, i, x :: r => if x.kids < 0 ∨ n < x.kids then -1 else if o + x.kids - 1 = 0 then i + 1 else spanGo n (o + x.kids - 1) (i + 1) r
def span (l : List Ent) : Int := spanGo l.length 1 0 l
def Whole (l : List Ent) : Prop := 0 < l.length ∧ span l = l.length
instance (l : List Ent) : Decidable (Whole l) := by unfold Whole; infer_instance
mutual
def tk : Nat → List Ent → Option (Nd × List Ent)
 | 0, _ => none
 | _ + 1, [] => none
 | f + 1, x :: r => if x.kids < 0 ∨ (r.length : Int) + 1 < x.kids then none else match tks f x.kids.toNat r with
  | none => none
  | some (ks, rest) => some (.mk x.id x.grp ks, rest)
def tks : Nat → Nat → List Ent → Option (List Nd × List Ent)
 | 0, 0, l => some ([], l)
 | 0, _ + 1, _ => none
 | _ + 1, 0, l => some ([], l)
 | f + 1, k + 1, l => match tk f l with
  | none => none
  | some (n, r) => match tks f k r with
   | none => none
   | some (ns, r') => some (n :: ns, r')
end
mutual
def ents (at_ : Int → Atr) : Nd → List Ent
 | .mk i g ks => ⟨i, g, ks.length, at_ i⟩ :: entss at_ ks
def entss (at_ : Int → Atr) : List Nd → List Ent
 | [] => []
 | k :: ks => ents at_ k ++ entss at_ ks
end
end Go.Dc

namespace Go.Dc
open Go.Sl Go.Ls Go.Tr
/-! paths -/
def checked (l : List Sg) : List Sg × Int := if pathCheck l ≠ 0 then ([], pathCheck l) else (l, 0)
def atSeg (l : List Sg) (i : Int) : Int := if pathCheck l ≠ 0 then pathCheck l else if i < 0 ∨ (l.length : Int) ≤ i then 30 else 0
def Sg.point (s : Sg) (k : Nat) : Pt := if k = 0 then s.p0 else if k = 1 then s.p1 else s.p2
def Sg.setPoint (s : Sg) (k : Nat) (p : Pt) : Sg := if k = 0 then { s with p0 := p } else if k = 1 then { s with p1 := p } else { s with p2 := p }
def sgAt (l : List Sg) (i : Int) : Sg := l.getD i.toNat Sg.z
def pathPut (l : List Sg) (i k : Int) (p : Pt) : List Sg × Int :=
 if atSeg l i ≠ 0 then ([], atSeg l i) else if k < 0 ∨ (need (sgAt l i).kind : Int) ≤ k then ([], 30)
 else checked (l.set i.toNat ((sgAt l i).setPoint k.toNat p))
def pathInsert (l : List Sg) (i : Int) (s : Sg) : List Sg × Int :=
 if pathCheck l ≠ 0 then ([], pathCheck l) else if i < 0 ∨ (l.length : Int) < i then ([], 30) else checked (l.take i.toNat ++ s :: l.drop i.toNat)
def pathDelete (l : List Sg) (i : Int) : List Sg × Int :=
 if atSeg l i ≠ 0 then ([], atSeg l i) else checked (l.take i.toNat ++ l.drop (i.toNat + 1))
def mid (p q : Pt) : Pt := ⟨(p.x + q.x) / 2, (p.y + q.y) / 2⟩
def Sg.parts (f : Pt) (s : Sg) : Sg × Sg :=
 if s.kind = 2 then ({ s with p0 := mid f s.p0 }, s)
 else if s.kind = 3 then ({ s with p0 := mid f s.p0, p1 := mid (mid f s.p0) (mid s.p0 s.p1) }, { s with p0 := mid s.p0 s.p1, p1 := s.p1 })
 else ({ s with p0 := mid f s.p0, p1 := mid (mid f s.p0) (mid s.p0 s.p1), p2 := mid (mid (mid f s.p0) (mid s.p0 s.p1)) (mid (mid s.p0 s.p1) (mid s.p1 s.p2)) }, { s with p0 := mid (mid s.p0 s.p1) (mid s.p1 s.p2), p1 := mid s.p1 s.p2, p2 := s.p2 })
def pathSplit (l : List Sg) (i : Int) : List Sg × Int :=
 if atSeg l i ≠ 0 then ([], atSeg l i) else if (sgAt l i).kind = 1 ∨ (sgAt l i).kind = 5 then ([], 33) else if l.length = 4096 then ([], 36)
 else
  let q := (sgAt l i).parts ((sgAt l (i - 1)).point (need (sgAt l (i - 1)).kind - 1))
  (l.take i.toNat ++ q.1 :: q.2 :: l.drop (i.toNat + 1), 0)
/-! a drawing -/
structure Dr where
 top : Nd
 at_ : Int → Option Atr
 segs : Int
def Dr.get (d : Dr) (i : Int) : Atr := (d.at_ i).getD Atr.z
def upAt (f : Int → Option Atr) (i : Int) (a : Atr) : Int → Option Atr := fun k => if k = i then some a else f k
def downAt (f : Int → Option Atr) (i : Int) : Int → Option Atr := fun k => if k = i then none else f k
def Dr.new : Dr := ⟨.mk 0 true [], fun _ => none, 0⟩
def Dr.entries (d : Dr) : List Ent := (ents d.get d.top).tail
def segsOf (l : List Ent) : Int := isum (l.map fun x => (x.atr.path.length : Int))
def firstWrong : List Ent → Int
 | [] => 0
 | x :: r => if x.atr.check x.grp ≠ 0 then x.atr.check x.grp else firstWrong r
def putAll (f : Int → Option Atr) : List Ent → Int → Option Atr
 | [] => f
 | x :: r => putAll (upAt f x.id x.atr) r
def dropAll (f : Int → Option Atr) : List Ent → Int → Option Atr
 | [] => f
 | x :: r => dropAll (downAt f x.id) r
def mostSegs : Int := 1048576
def nodeOf (l : List Ent) : Nd := ((tk (2 * l.length) l).map Prod.fst).getD Nd.zero
def Dr.add (d : Dr) (c : Cm) : Dr × Cm × Int :=
 if ¬ Whole c.ents then (d, Cm.z, 20)
 else if firstWrong c.ents ≠ 0 then (d, Cm.z, firstWrong c.ents)
 else if mostSegs - d.segs < segsOf c.ents then (d, Cm.z, if (Nd.add d.top c.parent c.index (nodeOf c.ents)).2 ≠ 0 then (Nd.add d.top c.parent c.index (nodeOf c.ents)).2 else 36)
 else if (Nd.add d.top c.parent c.index (nodeOf c.ents)).2 ≠ 0 then (d, Cm.z, (Nd.add d.top c.parent c.index (nodeOf c.ents)).2)
 else (⟨(Nd.add d.top c.parent c.index (nodeOf c.ents)).1, putAll d.at_ c.ents, d.segs + segsOf c.ents⟩, { Cm.z with kind := 2, id := (nodeOf c.ents).id }, 0)
def Dr.remove (d : Dr) (c : Cm) : Dr × Cm × Int :=
 let q := Nd.remove d.top c.id
 if q.2.2.2.2 ≠ 0 then (d, Cm.z, q.2.2.2.2)
 else
  let l := ents d.get q.2.1
  (⟨q.1, dropAll d.at_ l, d.segs - segsOf l⟩, { Cm.z with kind := 1, parent := q.2.2.1, index := q.2.2.2.1, ents := l }, 0)
def Dr.move (d : Dr) (c : Cm) : Dr × Cm × Int :=
 let w := (Nd.whr c.id d.top).getD (0, 0)
 let q := Nd.move d.top c.id c.parent c.index
 if q.2 ≠ 0 then (d, Cm.z, q.2) else ({ d with top := q.1 }, { Cm.z with kind := 3, id := c.id, parent := w.1, index := w.2 }, 0)
def Dr.wrap (d : Dr) (c : Cm) : Dr × Cm × Int :=
 if c.atr.check true ≠ 0 then (d, Cm.z, c.atr.check true)
 else
  let q := Nd.wrap d.top c.id c.parent c.index c.count
  if q.2 ≠ 0 then (d, Cm.z, q.2) else (⟨q.1, upAt d.at_ c.id c.atr, d.segs⟩, { Cm.z with kind := 5, id := c.id }, 0)
def Dr.unwrap (d : Dr) (c : Cm) : Dr × Cm × Int :=
 let q := Nd.unwrap d.top c.id
 if q.2.2.2.2 ≠ 0 then (d, Cm.z, q.2.2.2.2)
 else (⟨q.1, downAt d.at_ c.id, d.segs⟩, { Cm.z with kind := 4, id := c.id, parent := q.2.1, index := q.2.2.1, count := q.2.2.2.1, atr := d.get c.id }, 0)
def change (a : Atr) (c : Cm) : Atr × Cm × Int :=
 if c.kind = 6 then ({ a with mtx := c.atr.mtx }, { Cm.z with kind := 6, atr := { Atr.z with mtx := a.mtx } }, if c.atr.mtx.right then 0 else 10)
 else if c.kind = 7 then ({ a with sty := c.atr.sty }, { Cm.z with kind := 7, atr := { Atr.z with sty := a.sty } }, c.atr.sty.check)
 else if c.kind = 8 then ({ a with path := c.atr.path }, { Cm.z with kind := 8, atr := { Atr.z with path := a.path } }, pathCheck c.atr.path)
 else if c.kind = 9 then ({ a with path := (pathInsert a.path c.i c.seg).1 }, { Cm.z with kind := 10, i := c.i }, (pathInsert a.path c.i c.seg).2)
 else if c.kind = 10 then ({ a with path := (pathDelete a.path c.i).1 }, { Cm.z with kind := 9, i := c.i, seg := if (pathDelete a.path c.i).2 = 0 then sgAt a.path c.i else Sg.z }, (pathDelete a.path c.i).2)
 else if c.kind = 11 then ({ a with path := (pathPut a.path c.i c.k c.point).1 }, { Cm.z with kind := 11, i := c.i, k := c.k, point := if (pathPut a.path c.i c.k c.point).2 = 0 then (sgAt a.path c.i).point c.k.toNat else Pt.z }, (pathPut a.path c.i c.k c.point).2)
 else ({ a with path := (pathSplit a.path c.i).1 }, { Cm.z with kind := 8, atr := { Atr.z with path := a.path } }, (pathSplit a.path c.i).2)
def Dr.set (d : Dr) (c : Cm) : Dr × Cm × Int :=
 if c.id = 0 then (d, Cm.z, 30)
 else match d.at_ c.id with
  | none => (d, Cm.z, 31)
  | some a =>
   if 8 ≤ c.kind ∧ ((Nd.find c.id d.top).map Nd.grp).getD false = true then (d, Cm.z, 33)
   else if (change a c).2.2 ≠ 0 then (d, Cm.z, (change a c).2.2)
   else if mostSegs < d.segs + (change a c).1.path.length - a.path.length then (d, Cm.z, 36)
   else (⟨d.top, upAt d.at_ c.id (change a c).1, d.segs + (change a c).1.path.length - a.path.length⟩, { (change a c).2.1 with id := c.id }, 0)
def Dr.apply (d : Dr) (c : Cm) : Dr × Cm × Int :=
 if c.kind = 1 then d.add c else if c.kind = 2 then d.remove c else if c.kind = 3 then d.move c else if c.kind = 4 then d.wrap c else if c.kind = 5 then d.unwrap c
 else if 6 ≤ c.kind ∧ c.kind ≤ 12 then d.set c else (d, Cm.z, 33)
end Go.Dc

namespace Go.Proofs.YtggcpoleklcmkaaGreatDoor
open Go.Sl Go.Ls Go.Dc
def NeedAt (I : Mem) : Prop := At I 0 0 [vi 0, vi 1, vi 1, vi 2, vi 3, vi 0]
theorem NeedAt.mono {I I' : Mem} (h : NeedAt I) (hI : I.le I') : NeedAt I' := At.mono h hI
theorem need_ctr (k : Int) (I : Mem) (hN : NeedAt I) : Ctr Tryz.prog 56 [vi k] I [] (Still I fun v => v = vi (need k)) := by
 refine Ctr.intro Tryz.func56 rfl rfl rfl fun E F => ?_
 by_cases h1 : k < 1
 ·skip
  refine jS (jf rfl (jM (jB (jS (ja rfl (jy rfl rfl (jb rfl (jH (jH (jk rfl (jM (jF (jS (jf rfl (jM (jR (jU ?_)))))))))))))))))
  refine jP [] (jr1 rfl (jtI rfl)) ?_
  refine ⟨rfl, rfl, ?_⟩
  unfold need
  rw [if_neg (by omega), if_neg (by omega), if_neg (by omega)]
  rfl
 by_cases h2 : k > 5
 ·skip
  refine jS (jf rfl (jM (jB (jS (ja rfl (jx rfl rfl (jb rfl (jG (ja rfl (jG (jO rfl rfl (jk rfl (jM (jF (jS (jf rfl (jM (jR (jU ?_)))))))))))))))))))
  refine jP [] (jr1 rfl (jtI rfl)) ?_
  refine ⟨rfl, rfl, ?_⟩
  unfold need
  rw [if_neg (by omega), if_neg (by omega), if_neg (by omega)]
  rfl
 have hk : k = 1 ∨ k = 2 ∨ k = 3 ∨ k = 4 ∨ k = 5 := by omega
 have hN' : At I 0 0 [vi 0, vi 1, vi 1, vi 2, vi 3, vi 0] := hN
 rcases hk with rfl | rfl | rfl | rfl | rfl
 ·skip
  refine jS (jf rfl (jM (jB (jS (ja rfl (jx rfl rfl (jb rfl (jG (ja rfl (jG (jL rfl rfl (jk rfl (jM (jE (jV (jK (ja rfl (jm (Val.indexAddrA rfl rfl (by omega) (by omega)) ?_))))))))))))))))))
  refine jm (Val.loadS rfl (Rd.imm (At.one (by assumption) rfl))) ?_
  refine jf rfl (jM (jR ?_))
  exact jP [] (jr1 rfl (jtI rfl)) ⟨rfl, rfl, rfl⟩
 ·skip
  refine jS (jf rfl (jM (jB (jS (ja rfl (jx rfl rfl (jb rfl (jG (ja rfl (jG (jL rfl rfl (jk rfl (jM (jE (jV (jK (ja rfl (jm (Val.indexAddrA rfl rfl (by omega) (by omega)) ?_))))))))))))))))))
  refine jm (Val.loadS rfl (Rd.imm (At.one (by assumption) rfl))) ?_
  refine jf rfl (jM (jR ?_))
  exact jP [] (jr1 rfl (jtI rfl)) ⟨rfl, rfl, rfl⟩
 ·skip
  refine jS (jf rfl (jM (jB (jS (ja rfl (jx rfl rfl (jb rfl (jG (ja rfl (jG (jL rfl rfl (jk rfl (jM (jE (jV (jK (ja rfl (jm (Val.indexAddrA rfl rfl (by omega) (by omega)) ?_))))))))))))))))))
  refine jm (Val.loadS rfl (Rd.imm (At.one (by assumption) rfl))) ?_
  refine jf rfl (jM (jR ?_))
  exact jP [] (jr1 rfl (jtI rfl)) ⟨rfl, rfl, rfl⟩
 ·skip
  refine jS (jf rfl (jM (jB (jS (ja rfl (jx rfl rfl (jb rfl (jG (ja rfl (jG (jL rfl rfl (jk rfl (jM (jE (jV (jK (ja rfl (jm (Val.indexAddrA rfl rfl (by omega) (by omega)) ?_))))))))))))))))))
  refine jm (Val.loadS rfl (Rd.imm (At.one (by assumption) rfl))) ?_
  refine jf rfl (jM (jR ?_))
  exact jP [] (jr1 rfl (jtI rfl)) ⟨rfl, rfl, rfl⟩
 ·skip
  refine jS (jf rfl (jM (jB (jS (ja rfl (jx rfl rfl (jb rfl (jG (ja rfl (jG (jL rfl rfl (jk rfl (jM (jE (jV (jK (ja rfl (jm (Val.indexAddrA rfl rfl (by omega) (by omega)) ?_))))))))))))))))))
  refine jm (Val.loadS rfl (Rd.imm (At.one (by assumption) rfl))) ?_
  refine jf rfl (jM (jR ?_))
  exact jP [] (jr1 rfl (jtI rfl)) ⟨rfl, rfl, rfl⟩
end Go.Proofs.YtggcpoleklcmkaaGreatDoor

namespace Go.Dc
open Go.Sl Go.Ls
theorem vi_inj {a b : Int} (h : vi a = vi b) : a = b := by injection h
theorem byt_inj {a b : Fin 256} (h : byt a = byt b) : a = b := by injection h with _ h; exact Fin.ext (by omega)
theorem Pt.inj {p q : Pt} (h : p.cs = q.cs) : p = q := by
 cases p; cases q
 simp only [Pt.cs, List.cons.injEq, Value.int.injEq, true_and, and_true] at h
 obtain ⟨rfl, rfl⟩ := h; rfl
theorem Col.inj {p q : Col} (h : p.cs = q.cs) : p = q := by
 cases p; cases q
 simp only [Col.cs, List.cons.injEq, and_true] at h
 obtain ⟨h1, h2, h3, h4⟩ := h
 rw [byt_inj h1, byt_inj h2, byt_inj h3, byt_inj h4]
theorem Stp.inj {p q : Stp} (h : p.cs = q.cs) : p = q := by
 cases p with | mk a c => cases q with | mk b d =>
 simp only [Stp.cs, List.cons.injEq, and_true] at h
 obtain ⟨h0, h1, h2, h3, h4⟩ := h
 rw [vi_inj h0, Col.inj (p := c) (q := d) (by simp only [Col.cs, h1, h2, h3, h4])]
theorem Sg.inj {p q : Sg} (h : p.cs = q.cs) : p = q := by
 obtain ⟨k, ⟨a, b⟩, ⟨c, d⟩, ⟨e, f⟩⟩ := p
 obtain ⟨k', ⟨a', b'⟩, ⟨c', d'⟩, ⟨e', f'⟩⟩ := q
 simp only [Sg.cs, List.cons.injEq, Value.int.injEq, true_and, and_true] at h
 obtain ⟨rfl, rfl, rfl, rfl, rfl, rfl, rfl⟩ := h; rfl
theorem Mtx.inj {p q : Mtx} (h : p.cs = q.cs) : p = q := by
 cases p; cases q
 simp only [Mtx.cs, List.cons.injEq, Value.int.injEq, true_and, and_true] at h
 obtain ⟨rfl, rfl, rfl, rfl, rfl, rfl⟩ := h; rfl
theorem Pnt.of {p q : Pnt} (h0 : p.kind = q.kind) (h1 : p.col = q.col) (h2 : p.frm = q.frm) (h3 : p.to = q.to) (h4 : p.stops = q.stops) : p = q := by
 cases p; cases q
 simp only at h0 h1 h2 h3 h4
 subst h0 h1 h2 h3 h4; rfl
theorem Sty.of {p q : Sty} (h0 : p.fill = q.fill) (h1 : p.pen = q.pen) (h2 : p.rule = q.rule) (h3 : p.half = q.half) (h4 : p.cap = q.cap) (h5 : p.dash = q.dash) (h6 : p.phase = q.phase) (h7 : p.opac = q.opac) (h8 : p.mode = q.mode) : p = q := by
 cases p; cases q
 simp only at h0 h1 h2 h3 h4 h5 h6 h7 h8
 subst h0 h1 h2 h3 h4 h5 h6 h7 h8; rfl
theorem Atr.of {p q : Atr} (h0 : p.mtx = q.mtx) (h1 : p.sty = q.sty) (h2 : p.path = q.path) : p = q := by
 cases p; cases q
 simp only at h0 h1 h2
 subst h0 h1 h2; rfl
theorem Ent.of {p q : Ent} (h0 : p.id = q.id) (h1 : p.grp = q.grp) (h2 : p.kids = q.kids) (h3 : p.atr = q.atr) : p = q := by
 cases p; cases q
 simp only at h0 h1 h2 h3
 subst h0 h1 h2 h3; rfl
end Go.Dc
namespace Go.Proofs.YtggcpoleklcmkaaGreatDoor
open Go.Sl Go.Ls Go.Dc
theorem take_more {α : Type} {l m : List α} {k : Nat} (h : l.take k = m.take k) (h1 : k < l.length) (h2 : k < m.length) (he : l[k] = m[k]) : l.take (k + 1) = m.take (k + 1) := by
 rw [List.take_succ_eq_append_getElem h1, List.take_succ_eq_append_getElem h2, h, he]
theorem eqInt (l m : List Int) (v u : Value) (I : Mem) (hv : LsAt Int.rep I l v) (hu : LsAt Int.rep I m u) :
  Ctr Tryz.prog 99 [v, u] I [] (Still I (EqP (l = m))) := by
 have hlb : l.length ≤ 9223372036854775807 := by obtain ⟨_, h, _⟩ := hv; exact h.le
 obtain ⟨a1, c1, rfl⟩ := hv.sl
 obtain ⟨a2, c2, rfl⟩ := hu.sl
 refine Ctr.intro Tryz.func99 rfl rfl rfl fun E F => ?_
 by_cases hne : l.length = m.length
 ·skip
  refine jS (jg rfl (jM (jB (jS (jc rfl (jm (jo rfl) (jc rfl (jm (jo rfl) (jz rfl rfl (jM (jE (jV (jA (jB (jS (jc rfl (jm (jo rfl) (ja rfl (jM (WC.block ?_))))))))))))))))))))
  refine WC.loop (fun q ρ' I' L' => ∃ k : Nat, q = l.length - k ∧ k ≤ l.length ∧ I' = I ∧ ρ' 0 = .slice a1 l.length c1 ∧ ρ' 1 = .slice a2 m.length c2 ∧ ρ' 12 = vi l.length ∧ ρ' 13 = vi k ∧ L' = [F] ∧ l.take k = m.take k)
   l.length ⟨0, rfl, by omega, rfl, rfl, rfl, rfl, rfl, rfl, rfl⟩ ?_
  rintro q ρ' I0 L' ⟨k, rfl, hk, rfl, h0, h1, h12, h13, rfl, heq⟩
  refine ju4 h13 h12 h1 h0 ?_
  by_cases hkn : k < l.length
  ·have hkm : k < m.length := by omega
   obtain ⟨b, off, cap', cs, he, ⟨rfl, hi⟩, hA⟩ := hv.get k hkn
   cases he
   obtain ⟨b', off', cap'', cs', he', ⟨rfl, hi'⟩, hA'⟩ := hu.get k hkm
   cases he'
   have htk := take_more heq hkn hkm
   generalize hx : l[k] = x at *
   generalize hy : m[k] = y at *
   refine jS (jy rfl rfl (jM (jB (jF (jV (jA (jB (WC.block (jS (ja rfl (jf rfl (jM (jB ?_)))))))))))))
   by_cases hxy : x = y
   ·subst hxy
    refine j8 999 [] rfl (jT 0 rfl (Val.moveS rfl) (jT 1 rfl (Val.moveI rfl) (jT 2 rfl (jZ rfl rfl) (jT 3 rfl (Val.loadS rfl (Rd.imm (by assumption))) ?_))))
    refine jT 4 rfl (Val.moveS rfl) (jT 5 rfl (Val.moveI rfl) (jT 6 rfl (jZ rfl rfl) (jT 7 rfl (Val.loadS rfl (Rd.imm (by assumption))) ?_)))
    refine jT 8 rfl (Val.neq rfl rfl (bne_eq_false_iff_eq.2 (by omega))) ?_
    exact j6 (jA (jE (jV (WX.inNormal (jA (jD (jX rfl rfl (ja rfl (jC (WX.thenK (WK.round (l.length - (k + 1)) (by omega) ⟨k + 1, rfl, by omega, rfl, rfl, rfl, rfl, rfl, rfl, htk rfl⟩)))))))))))
   ·skip
    refine j8 999 [] rfl (jT 0 rfl (Val.moveS rfl) (jT 1 rfl (Val.moveI rfl) (jT 2 rfl (jZ rfl rfl) (jT 3 rfl (Val.loadS rfl (Rd.imm (by assumption))) ?_))))
    refine jT 4 rfl (Val.moveS rfl) (jT 5 rfl (Val.moveI rfl) (jT 6 rfl (jZ rfl rfl) (jT 7 rfl (Val.loadS rfl (Rd.imm (by assumption))) ?_)))
    refine jT 8 rfl (Val.neq rfl rfl (bne_iff_ne.2 (by omega))) ?_
    refine j6 (jA (jF (jS (jg rfl (jM (jR (WX.inRet (jU (jU (WX.inRet (jU ?_)))))))))))
    refine jP [] (jr1 rfl (jtB rfl)) ?_
    refine ⟨rfl, rfl, EqP.f fun e => ?_⟩
    subst e
    exact hxy (hx.symm.trans hy)
  ·skip
   refine jS (jx rfl rfl (jM (jB (jE (WC.exit (WX.thenExit (WX.thenExit (WX.inHit (jK (jg rfl (jM (jR ?_))))))))))))
   refine jP [] (jr1 rfl (jtB rfl)) ?_
   refine ⟨rfl, rfl, EqP.t ?_⟩
   have : k = l.length := by omega
   rw [this, List.take_length, hne, List.take_length] at heq
   exact heq
 ·skip
  refine jS (jg rfl (jM (jB (jS (jc rfl (jm (jo rfl) (jc rfl (jm (jo rfl) (jJ rfl rfl (jM (jF (jS (jg rfl (jM (jR (jU ?_))))))))))))))))
  exact jP [] (jr1 rfl (jtB rfl)) ⟨rfl, rfl, EqP.f fun h => hne (by rw [h])⟩
theorem eqStp (l m : List Stp) (v u : Value) (I : Mem) (hv : LsAt Stp.rep I l v) (hu : LsAt Stp.rep I m u) :
  Ctr Tryz.prog 126 [v, u] I [] (Still I (EqP (l = m))) := by
 have hlb : l.length ≤ 9223372036854775807 := by obtain ⟨_, h, _⟩ := hv; exact h.le
 obtain ⟨a1, c1, rfl⟩ := hv.sl
 obtain ⟨a2, c2, rfl⟩ := hu.sl
 refine Ctr.intro Tryz.func126 rfl rfl rfl fun E F => ?_
 by_cases hne : l.length = m.length
 ·skip
  refine jS (jg rfl (jM (jB (jS (jc rfl (jm (jo rfl) (jc rfl (jm (jo rfl) (jz rfl rfl (jM (jE (jV (jA (jB (jS (jc rfl (jm (jo rfl) (ja rfl (jM (WC.block ?_))))))))))))))))))))
  refine WC.loop (fun q ρ' I' L' => ∃ k : Nat, q = l.length - k ∧ k ≤ l.length ∧ I' = I ∧ ρ' 0 = .slice a1 l.length c1 ∧ ρ' 1 = .slice a2 m.length c2 ∧ ρ' 12 = vi l.length ∧ ρ' 13 = vi k ∧ L' = [F] ∧ l.take k = m.take k)
   l.length ⟨0, rfl, by omega, rfl, rfl, rfl, rfl, rfl, rfl, rfl⟩ ?_
  rintro q ρ' I0 L' ⟨k, rfl, hk, rfl, h0, h1, h12, h13, rfl, heq⟩
  refine ju4 h13 h12 h1 h0 ?_
  by_cases hkn : k < l.length
  ·have hkm : k < m.length := by omega
   obtain ⟨b, off, cap', cs, he, ⟨rfl, hi⟩, hA⟩ := hv.get k hkn
   cases he
   obtain ⟨b', off', cap'', cs', he', ⟨rfl, hi'⟩, hA'⟩ := hu.get k hkm
   cases he'
   have htk := take_more heq hkn hkm
   generalize hx : l[k] = x at *
   generalize hy : m[k] = y at *
   refine jS (jy rfl rfl (jM (jB (jF (jV (jA (jB (WC.block (jS (ja rfl (jf rfl (jM (jB ?_)))))))))))))
   by_cases hxy : x = y
   ·subst hxy
    refine j8 999 [] rfl (jT 0 rfl (Val.moveS rfl) (jT 1 rfl (Val.moveI rfl) (jT 2 rfl (jZ rfl rfl) (jT 3 rfl (Val.loadI rfl (by assumption) rfl) ?_))))
    refine jT 4 rfl (Val.moveS rfl) (jT 5 rfl (Val.moveI rfl) (jT 6 rfl (jZ rfl rfl) (jT 7 rfl (Val.loadI rfl (by assumption) rfl) ?_)))
    refine jT 8 rfl (Val.neqSame rfl rfl rfl) ?_
    exact j6 (jA (jE (jV (WX.inNormal (jA (jD (jX rfl rfl (ja rfl (jC (WX.thenK (WK.round (l.length - (k + 1)) (by omega) ⟨k + 1, rfl, by omega, rfl, rfl, rfl, rfl, rfl, rfl, htk rfl⟩)))))))))))
   ·have hcs : x.cs ≠ y.cs := fun e => hxy (Stp.inj e)
    refine j8 999 [] rfl (jT 0 rfl (Val.moveS rfl) (jT 1 rfl (Val.moveI rfl) (jT 2 rfl (jZ rfl rfl) (jT 3 rfl (Val.loadI rfl (by assumption) rfl) ?_))))
    refine jT 4 rfl (Val.moveS rfl) (jT 5 rfl (Val.moveI rfl) (jT 6 rfl (jZ rfl rfl) (jT 7 rfl (Val.loadI rfl (by assumption) rfl) ?_)))
    refine jT 8 rfl (Val.neqD rfl rfl rfl rfl (by assumption)) ?_
    refine j6 (jA (jF (jS (jg rfl (jM (jR (WX.inRet (jU (jU (WX.inRet (jU ?_)))))))))))
    refine jP [] (jr1 rfl (jtB rfl)) ?_
    refine ⟨rfl, rfl, EqP.f fun e => ?_⟩
    subst e
    exact hxy (hx.symm.trans hy)
  ·skip
   refine jS (jx rfl rfl (jM (jB (jE (WC.exit (WX.thenExit (WX.thenExit (WX.inHit (jK (jg rfl (jM (jR ?_))))))))))))
   refine jP [] (jr1 rfl (jtB rfl)) ?_
   refine ⟨rfl, rfl, EqP.t ?_⟩
   have : k = l.length := by omega
   rw [this, List.take_length, hne, List.take_length] at heq
   exact heq
 ·skip
  refine jS (jg rfl (jM (jB (jS (jc rfl (jm (jo rfl) (jc rfl (jm (jo rfl) (jJ rfl rfl (jM (jF (jS (jg rfl (jM (jR (jU ?_))))))))))))))))
  exact jP [] (jr1 rfl (jtB rfl)) ⟨rfl, rfl, EqP.f fun h => hne (by rw [h])⟩
theorem eqSg (l m : List Sg) (v u : Value) (I : Mem) (hv : LsAt Sg.rep I l v) (hu : LsAt Sg.rep I m u) :
  Ctr Tryz.prog 100 [v, u] I [] (Still I (EqP (l = m))) := by
 have hlb : l.length ≤ 9223372036854775807 := by obtain ⟨_, h, _⟩ := hv; exact h.le
 obtain ⟨a1, c1, rfl⟩ := hv.sl
 obtain ⟨a2, c2, rfl⟩ := hu.sl
 refine Ctr.intro Tryz.func100 rfl rfl rfl fun E F => ?_
 by_cases hne : l.length = m.length
 ·skip
  refine jS (jg rfl (jM (jB (jS (jc rfl (jm (jo rfl) (jc rfl (jm (jo rfl) (jz rfl rfl (jM (jE (jV (jA (jB (jS (jc rfl (jm (jo rfl) (ja rfl (jM (WC.block ?_))))))))))))))))))))
  refine WC.loop (fun q ρ' I' L' => ∃ k : Nat, q = l.length - k ∧ k ≤ l.length ∧ I' = I ∧ ρ' 0 = .slice a1 l.length c1 ∧ ρ' 1 = .slice a2 m.length c2 ∧ ρ' 12 = vi l.length ∧ ρ' 13 = vi k ∧ L' = [F] ∧ l.take k = m.take k)
   l.length ⟨0, rfl, by omega, rfl, rfl, rfl, rfl, rfl, rfl, rfl⟩ ?_
  rintro q ρ' I0 L' ⟨k, rfl, hk, rfl, h0, h1, h12, h13, rfl, heq⟩
  refine ju4 h13 h12 h1 h0 ?_
  by_cases hkn : k < l.length
  ·have hkm : k < m.length := by omega
   obtain ⟨b, off, cap', cs, he, ⟨rfl, hi⟩, hA⟩ := hv.get k hkn
   cases he
   obtain ⟨b', off', cap'', cs', he', ⟨rfl, hi'⟩, hA'⟩ := hu.get k hkm
   cases he'
   have htk := take_more heq hkn hkm
   generalize hx : l[k] = x at *
   generalize hy : m[k] = y at *
   refine jS (jy rfl rfl (jM (jB (jF (jV (jA (jB (WC.block (jS (ja rfl (jf rfl (jM (jB ?_)))))))))))))
   by_cases hxy : x = y
   ·subst hxy
    refine j8 999 [] rfl (jT 0 rfl (Val.moveS rfl) (jT 1 rfl (Val.moveI rfl) (jT 2 rfl (jZ rfl rfl) (jT 3 rfl (Val.loadI rfl (by assumption) rfl) ?_))))
    refine jT 4 rfl (Val.moveS rfl) (jT 5 rfl (Val.moveI rfl) (jT 6 rfl (jZ rfl rfl) (jT 7 rfl (Val.loadI rfl (by assumption) rfl) ?_)))
    refine jT 8 rfl (Val.neqSame rfl rfl rfl) ?_
    exact j6 (jA (jE (jV (WX.inNormal (jA (jD (jX rfl rfl (ja rfl (jC (WX.thenK (WK.round (l.length - (k + 1)) (by omega) ⟨k + 1, rfl, by omega, rfl, rfl, rfl, rfl, rfl, rfl, htk rfl⟩)))))))))))
   ·have hcs : x.cs ≠ y.cs := fun e => hxy (Sg.inj e)
    refine j8 999 [] rfl (jT 0 rfl (Val.moveS rfl) (jT 1 rfl (Val.moveI rfl) (jT 2 rfl (jZ rfl rfl) (jT 3 rfl (Val.loadI rfl (by assumption) rfl) ?_))))
    refine jT 4 rfl (Val.moveS rfl) (jT 5 rfl (Val.moveI rfl) (jT 6 rfl (jZ rfl rfl) (jT 7 rfl (Val.loadI rfl (by assumption) rfl) ?_)))
    refine jT 8 rfl (Val.neqD rfl rfl rfl rfl (by assumption)) ?_
    refine j6 (jA (jF (jS (jg rfl (jM (jR (WX.inRet (jU (jU (WX.inRet (jU ?_)))))))))))
    refine jP [] (jr1 rfl (jtB rfl)) ?_
    refine ⟨rfl, rfl, EqP.f fun e => ?_⟩
    subst e
    exact hxy (hx.symm.trans hy)
  ·skip
   refine jS (jx rfl rfl (jM (jB (jE (WC.exit (WX.thenExit (WX.thenExit (WX.inHit (jK (jg rfl (jM (jR ?_))))))))))))
   refine jP [] (jr1 rfl (jtB rfl)) ?_
   refine ⟨rfl, rfl, EqP.t ?_⟩
   have : k = l.length := by omega
   rw [this, List.take_length, hne, List.take_length] at heq
   exact heq
 ·skip
  refine jS (jg rfl (jM (jB (jS (jc rfl (jm (jo rfl) (jc rfl (jm (jo rfl) (jJ rfl rfl (jM (jF (jS (jg rfl (jM (jR (jU ?_))))))))))))))))
  exact jP [] (jr1 rfl (jtB rfl)) ⟨rfl, rfl, EqP.f fun h => hne (by rw [h])⟩
theorem eqPnt (p q : Pnt) (t u : Value) (I : Mem) (hp : p.at_ I t) (hq : q.at_ I u) :
  Ctr Tryz.prog 98 [.agg (p.cs t).toArray, .agg (q.cs u).toArray] I [] (Still I (EqP (p = q))) := by
 have ht := hp.stops
 have hu := hq.stops
 obtain ⟨a1, c1, rfl⟩ := hp.sl
 obtain ⟨a2, c2, rfl⟩ := hq.sl
 refine Ctr.intro Tryz.func98 rfl rfl rfl fun E F => ?_
 refine jS (WL.boxA rfl rfl (fun _ => ?_))
 refine jW ?_
 refine WL.boxA rfl rfl (fun _ => ?_)
 refine jW ?_
 refine jg rfl (jN (jm (jn rfl) (jm (jp 1 rfl rfl rfl) (jm (jn rfl) (jm (jp 2 rfl rfl rfl) ?_)))))
 refine WL.eqI rfl rfl rfl (fun h => ?_) (fun h => ?_)
 refine jb rfl (jG (jm (jn rfl) (jG (jm (jt 1 rfl rfl rfl) (jG (jm (jn rfl) (jG (jm (jt 2 rfl rfl rfl) (jG ?_)))))))))
 refine WL.eqS rfl rfl rfl rfl rfl (fun h => ?_) (fun h => ?_)
 refine jk rfl (jb rfl (jG (jm (jn rfl) (jG (jm (jt 1 rfl rfl rfl) (jG (jm (jn rfl) (jG (jm (jt 2 rfl rfl rfl) (jG ?_))))))))))
 refine WL.eqS rfl rfl rfl rfl rfl (fun h => ?_) (fun h => ?_)
 refine jk rfl (jb rfl (jG (jm (jn rfl) (jG (jm (jt 1 rfl rfl rfl) (jG (jm (jn rfl) (jG (jm (jt 2 rfl rfl rfl) (jG ?_))))))))))
 refine WL.eqS rfl rfl rfl rfl rfl (fun h => ?_) (fun h => ?_)
 refine jk rfl (jb rfl (jG (jm (jn rfl) (jG (jm (jp 1 rfl rfl rfl) (jG (jm (jn rfl) (jG (jm (jp 2 rfl rfl rfl) (jG ?_))))))))))
 refine WL.callE rfl rfl (eqStp _ _ _ _ _ ht hu) rfl (fun h => ?_) (fun h => ?_)
 refine jk rfl (jg rfl (jM (jR ?_)))
 refine jP [] (jr1 rfl (jtB rfl)) ?_
 rename_i h0 h1 h2 h3
 exact ⟨rfl, rfl, EqP.t (Pnt.of h0 (Col.inj h1) (Pt.inj h2) (Pt.inj h3) h)⟩
 ·skip
  refine jk rfl (jg rfl (jM (jR ?_)))
  exact jP [] (jr1 rfl (jtB rfl)) ⟨rfl, rfl, EqP.f fun e => h (by subst e; rfl)⟩
 ·skip
  refine jk rfl (jb rfl (jH (jH (jH (jH (jH (jk rfl (jg rfl (jM (jR ?_))))))))))
  exact jP [] (jr1 rfl (jtB rfl)) ⟨rfl, rfl, EqP.f fun e => h (by subst e; rfl)⟩
 ·skip
  refine jk rfl (jb rfl (jH (jH (jH (jH (jH (jk rfl (jb rfl (jH (jH (jH (jH (jH (jk rfl (jg rfl (jM (jR ?_)))))))))))))))))
  exact jP [] (jr1 rfl (jtB rfl)) ⟨rfl, rfl, EqP.f fun e => h (by subst e; rfl)⟩
 ·skip
  refine jk rfl (jb rfl (jH (jH (jH (jH (jH (jk rfl (jb rfl (jH (jH (jH (jH (jH (jk rfl (jb rfl (jH (jH (jH (jH (jH (jk rfl (jg rfl (jM (jR ?_))))))))))))))))))))))))
  exact jP [] (jr1 rfl (jtB rfl)) ⟨rfl, rfl, EqP.f fun e => h (by subst e; rfl)⟩
 ·skip
  refine jb rfl (jH (jH (jH (jH (jH (jk rfl (jb rfl (jH (jH (jH (jH (jH (jk rfl (jb rfl (jH (jH (jH (jH (jH (jk rfl (jb rfl (jH (jH (jH (jH (jH (jk rfl (jg rfl (jM (jR ?_))))))))))))))))))))))))))))))
  exact jP [] (jr1 rfl (jtB rfl)) ⟨rfl, rfl, EqP.f fun e => h (by subst e; rfl)⟩
attribute [local irreducible] WC WL WX WK WA WAK Val Ctr RunRes ResIs Rd At sl box pt Exit.then Exit.inBlock bodyPost Code.wp wpList
theorem eqSty (p q : Sty) (t u d t2 u2 d2 : Value) (I : Mem) (hp : p.at_ I t u d) (hq : q.at_ I t2 u2 d2) :
  Ctr Tryz.prog 61 [.agg (p.cs t u d).toArray, .agg (q.cs t2 u2 d2).toArray] I [] (Still I (EqP (p = q))) := by
 have hp0 := hp
 have hq0 := hq
 obtain ⟨a1, c1, a2, c2, a3, c3, rfl, rfl, rfl⟩ := hp.sl
 obtain ⟨b1, d1, b2, d2, b3, d3, rfl, rfl, rfl⟩ := hq.sl
 refine Ctr.intro Tryz.func61 rfl rfl rfl fun E F => ?_
 refine jS (WL.boxA rfl rfl (fun _ => ?_))
 refine jW ?_
 refine WL.boxA rfl rfl (fun _ => ?_)
 refine jW ?_
 refine jg rfl (jN (WL.ap1 (jm (jn rfl) (WL.ap1 (jm (jt 1 rfl rfl rfl) (WL.ap1 (jm (jn rfl) (WL.ap1 (jm (jt 2 rfl rfl rfl) (WL.ap1 ?_))))))))))
 refine WL.callE rfl rfl (eqPnt p.fill q.fill _ _ _ hp.fill hq.fill) rfl (fun h => ?_) (fun h => ?_)
 refine WL.ap1 (jb rfl (WL.ap1 (jG (jm (jn rfl) (WL.ap1 (jG (jm (jt 1 rfl rfl rfl) (WL.ap1 (jG (jm (jn rfl) (WL.ap1 (jG (jm (jt 2 rfl rfl rfl) (WL.ap1 (jG ?_)))))))))))))))
 refine WL.callE rfl rfl (eqPnt p.pen q.pen _ _ _ hp.pen hq.pen) rfl (fun h => ?_) (fun h => ?_)
 refine WL.ap1 (jk rfl (WL.ap1 (jb rfl (WL.ap1 (jG (jm (jn rfl) (WL.ap1 (jG (jm (jp 1 rfl rfl rfl) (WL.ap1 (jG (jm (jn rfl) (WL.ap1 (jG (jm (jp 2 rfl rfl rfl) (WL.ap1 (jG ?_)))))))))))))))))
 refine WL.eqI rfl rfl rfl (fun h => ?_) (fun h => ?_)
 refine WL.ap1 (jk rfl (WL.ap1 (jb rfl (WL.ap1 (jG (jm (jn rfl) (WL.ap1 (jG (jm (jp 1 rfl rfl rfl) (WL.ap1 (jG (jm (jn rfl) (WL.ap1 (jG (jm (jp 2 rfl rfl rfl) (WL.ap1 (jG ?_)))))))))))))))))
 refine WL.eqI rfl rfl rfl (fun h => ?_) (fun h => ?_)
 refine WL.ap1 (jk rfl (WL.ap1 (jb rfl (WL.ap1 (jG (jm (jn rfl) (WL.ap1 (jG (jm (jp 1 rfl rfl rfl) (WL.ap1 (jG (jm (jn rfl) (WL.ap1 (jG (jm (jp 2 rfl rfl rfl) (WL.ap1 (jG ?_)))))))))))))))))
 refine WL.eqI rfl rfl rfl (fun h => ?_) (fun h => ?_)
 refine WL.ap1 (jk rfl (WL.ap0 (jb rfl (jG (jm (jn rfl) (jG (jm (jn rfl) (jG (jm (jp 1 rfl rfl rfl) (jG (jm (jn rfl) (jG (jm (jn rfl) (jG (jm (jp 2 rfl rfl rfl) (jG ?_))))))))))))))))
 refine WL.callE rfl rfl (eqInt _ _ _ _ _ hp.dash hq.dash) rfl (fun h => ?_) (fun h => ?_)
 refine jk rfl (jb rfl (jG (jm (jn rfl) (jG (jm (jn rfl) (jG (jm (jp 1 rfl rfl rfl) (jG (jm (jn rfl) (jG (jm (jn rfl) (jG (jm (jp 2 rfl rfl rfl) (jG ?_))))))))))))))
 refine WL.eqI rfl rfl rfl (fun h => ?_) (fun h => ?_)
 refine jk rfl (jb rfl (jG (jm (jn rfl) (jG (jm (jp 1 rfl rfl rfl) (jG (jm (jn rfl) (jG (jm (jp 2 rfl rfl rfl) (jG ?_))))))))))
 refine WL.eqI rfl rfl rfl (fun h => ?_) (fun h => ?_)
 refine jk rfl (jb rfl (jG (jm (jn rfl) (jG (jm (jp 1 rfl rfl rfl) (jG (jm (jn rfl) (jG (jm (jp 2 rfl rfl rfl) (jG ?_))))))))))
 refine WL.eqI rfl rfl rfl (fun h => ?_) (fun h => ?_)
 refine jk rfl (jg rfl (jM (jR ?_)))
 refine jP [] (jr1 rfl (jtB rfl)) ?_
 rename_i h0 h1 h2 h3 h4 h5 h6 h7
 exact ⟨rfl, rfl, EqP.t (Sty.of h0 h1 h2 h3 h4 h5 h6 h7 h)⟩
 ·skip
  refine jk rfl (jg rfl (jM (jR ?_)))
  exact jP [] (jr1 rfl (jtB rfl)) ⟨rfl, rfl, EqP.f fun e => h (by subst e; rfl)⟩
 ·skip
  refine jk rfl (jb rfl (jH (jH (jH (jH (jH (jk rfl (jg rfl (jM (jR ?_))))))))))
  exact jP [] (jr1 rfl (jtB rfl)) ⟨rfl, rfl, EqP.f fun e => h (by subst e; rfl)⟩
 ·skip
  refine jk rfl (jb rfl (jH (jH (jH (jH (jH (jk rfl (jb rfl (jH (jH (jH (jH (jH (jk rfl (jg rfl (jM (jR ?_)))))))))))))))))
  exact jP [] (jr1 rfl (jtB rfl)) ⟨rfl, rfl, EqP.f fun e => h (by subst e; rfl)⟩
 ·skip
  refine jk rfl (jb rfl (jH (jH (jH (jH (jH (jH (jH (jk rfl (jb rfl (jH (jH (jH (jH (jH (jk rfl (jb rfl (jH (jH (jH (jH (jH (jk rfl (jg rfl (jM (jR ?_))))))))))))))))))))))))))
  exact jP [] (jr1 rfl (jtB rfl)) ⟨rfl, rfl, EqP.f fun e => h (by subst e; rfl)⟩
 ·skip
  refine WL.ap1 (jk rfl (WL.ap0 (jb rfl (jH (jH (jH (jH (jH (jH (jH (jk rfl (jb rfl (jH (jH (jH (jH (jH (jH (jH (jk rfl (jb rfl (jH (jH (jH (jH (jH (jk rfl (jb rfl (jH (jH (jH (jH (jH (jk rfl (jg rfl (jM (jR ?_)))))))))))))))))))))))))))))))))))))
  exact jP [] (jr1 rfl (jtB rfl)) ⟨rfl, rfl, EqP.f fun e => h (by subst e; rfl)⟩
 ·skip
  refine WL.ap1 (jk rfl (WL.ap1 (jb rfl (WL.ap1 (jH (WL.ap1 (jH (WL.ap1 (jH (WL.ap1 (jH (WL.ap1 (jH (WL.ap1 (jk rfl (WL.ap0 (jb rfl (jH (jH (jH (jH (jH (jH (jH (jk rfl (jb rfl (jH (jH (jH (jH (jH (jH (jH (jk rfl (jb rfl (jH (jH (jH (jH ?_)))))))))))))))))))))))))))))))))))))))
  refine jH (jk rfl (jb rfl (jH (jH (jH (jH (jH (jk rfl (jg rfl (jM (jR ?_)))))))))))
  exact jP [] (jr1 rfl (jtB rfl)) ⟨rfl, rfl, EqP.f fun e => h (by subst e; rfl)⟩
 ·skip
  refine WL.ap1 (jk rfl (WL.ap1 (jb rfl (WL.ap1 (jH (WL.ap1 (jH (WL.ap1 (jH (WL.ap1 (jH (WL.ap1 (jH (WL.ap1 (jk rfl (WL.ap1 (jb rfl (WL.ap1 (jH (WL.ap1 (jH (WL.ap1 (jH (WL.ap1 (jH (WL.ap1 (jH (WL.ap1 (jk rfl (WL.ap0 (jb rfl (jH (jH (jH (jH (jH (jH (jH (jk rfl ?_)))))))))))))))))))))))))))))))))))))))
  refine jb rfl (jH (jH (jH (jH (jH (jH (jH (jk rfl (jb rfl (jH (jH (jH (jH (jH (jk rfl (jb rfl (jH (jH (jH (jH (jH (jk rfl (jg rfl (jM (jR ?_)))))))))))))))))))))))))
  exact jP [] (jr1 rfl (jtB rfl)) ⟨rfl, rfl, EqP.f fun e => h (by subst e; rfl)⟩
 ·skip
  refine WL.ap1 (jk rfl (WL.ap1 (jb rfl (WL.ap1 (jH (WL.ap1 (jH (WL.ap1 (jH (WL.ap1 (jH (WL.ap1 (jH (WL.ap1 (jk rfl (WL.ap1 (jb rfl (WL.ap1 (jH (WL.ap1 (jH (WL.ap1 (jH (WL.ap1 (jH (WL.ap1 (jH (WL.ap1 (jk rfl (WL.ap1 (jb rfl (WL.ap1 (jH (WL.ap1 (jH (WL.ap1 (jH (WL.ap1 (jH ?_)))))))))))))))))))))))))))))))))))))))
  refine WL.ap1 (jH (WL.ap1 (jk rfl (WL.ap0 (jb rfl (jH (jH (jH (jH (jH (jH (jH (jk rfl (jb rfl (jH (jH (jH (jH (jH (jH (jH (jk rfl (jb rfl (jH (jH (jH (jH (jH (jk rfl (jb rfl (jH (jH (jH (jH (jH (jk rfl (jg rfl (jM (jR ?_)))))))))))))))))))))))))))))))))))))))
  exact jP [] (jr1 rfl (jtB rfl)) ⟨rfl, rfl, EqP.f fun e => h (by subst e; rfl)⟩
 ·skip
  refine WL.ap1 (jb rfl (WL.ap1 (jH (WL.ap1 (jH (WL.ap1 (jH (WL.ap1 (jH (WL.ap1 (jH (WL.ap1 (jk rfl (WL.ap1 (jb rfl (WL.ap1 (jH (WL.ap1 (jH (WL.ap1 (jH (WL.ap1 (jH (WL.ap1 (jH (WL.ap1 (jk rfl (WL.ap1 (jb rfl (WL.ap1 (jH (WL.ap1 (jH (WL.ap1 (jH (WL.ap1 (jH (WL.ap1 (jH ?_)))))))))))))))))))))))))))))))))))))))
  refine WL.ap1 (jk rfl (WL.ap1 (jb rfl (WL.ap1 (jH (WL.ap1 (jH (WL.ap1 (jH (WL.ap1 (jH (WL.ap1 (jH (WL.ap1 (jk rfl (WL.ap0 (jb rfl (jH (jH (jH (jH (jH (jH (jH (jk rfl (jb rfl (jH (jH (jH (jH (jH (jH (jH (jk rfl (jb rfl (jH (jH (jH (jH ?_)))))))))))))))))))))))))))))))))))))))
  refine jH (jk rfl (jb rfl (jH (jH (jH (jH (jH (jk rfl (jg rfl (jM (jR ?_)))))))))))
  exact jP [] (jr1 rfl (jtB rfl)) ⟨rfl, rfl, EqP.f fun e => h (by subst e; rfl)⟩
theorem eqPath (l m : List Sg) (v u : Value) (I : Mem) (hv : LsAt Sg.rep I l v) (hu : LsAt Sg.rep I m u) :
  Ctr Tryz.prog 62 [v, u] I [] (Still I (EqP (l = m))) := by
 have hv0 := hv
 have hu0 := hu
 obtain ⟨a1, c1, rfl⟩ := hv.sl
 obtain ⟨a2, c2, rfl⟩ := hu.sl
 refine Ctr.intro Tryz.func62 rfl rfl rfl fun E F => ?_
 refine jS (jg rfl (jN (jc rfl (jc rfl ?_))))
 refine WL.callE rfl rfl (eqSg _ _ _ _ _ hv hu) rfl (fun h => ?_) (fun h => ?_)
 ·skip
  refine jg rfl (jM (jR ?_))
  exact jP [] (jr1 rfl (jtB rfl)) ⟨rfl, rfl, EqP.t h⟩
 ·skip
  refine jg rfl (jM (jR ?_))
  exact jP [] (jr1 rfl (jtB rfl)) ⟨rfl, rfl, EqP.f h⟩
theorem eqAtr (p q : Atr) (t u d r t2 u2 d2 r2 : Value) (I : Mem) (hp : p.at_ I t u d r) (hq : q.at_ I t2 u2 d2 r2) :
  Ctr Tryz.prog 20 [.agg (p.cs t u d r).toArray, .agg (q.cs t2 u2 d2 r2).toArray] I [] (Still I (EqP (p = q))) := by
 obtain ⟨a1, c1, a2, c2, a3, c3, a4, c4, rfl, rfl, rfl, rfl⟩ := hp.sl
 obtain ⟨b1, d1, b2, d2, b3, d3, b4, d4, rfl, rfl, rfl, rfl⟩ := hq.sl
 refine Ctr.intro Tryz.func20 rfl rfl rfl fun E F => ?_
 refine jS (WL.boxA rfl rfl (fun _ => ?_))
 refine jW ?_
 refine WL.boxA rfl rfl (fun _ => ?_)
 refine jW ?_
 refine jg rfl (jN (jm (jn rfl) (jm (jt 1 rfl rfl rfl) (jm (jn rfl) (jm (jt 2 rfl rfl rfl) ?_)))))
 refine WL.eqS rfl rfl rfl rfl rfl (fun h => ?_) (fun h => ?_)
 refine jb rfl (jG (jm (jn rfl) (jG (jm (jt 1 rfl rfl rfl) (jG (jm (jn rfl) (jG (jm (jt 2 rfl rfl rfl) (jG ?_)))))))))
 refine WL.callE rfl rfl (eqSty p.sty q.sty _ _ _ _ _ _ _ hp.sty hq.sty) rfl (fun h => ?_) (fun h => ?_)
 refine jk rfl (jb rfl (jG (jm (jn rfl) (jG (jm (jp 1 rfl rfl rfl) (jG (jm (jn rfl) (jG (jm (jp 2 rfl rfl rfl) (jG ?_))))))))))
 refine WL.callE rfl rfl (eqPath p.path q.path _ _ _ hp.path hq.path) rfl (fun h => ?_) (fun h => ?_)
 refine jk rfl (jg rfl (jM (jR ?_)))
 refine jP [] (jr1 rfl (jtB rfl)) ?_
 rename_i h0 h1
 exact ⟨rfl, rfl, EqP.t (Atr.of (Mtx.inj h0) h1 h)⟩
 ·skip
  refine jk rfl (jg rfl (jM (jR ?_)))
  exact jP [] (jr1 rfl (jtB rfl)) ⟨rfl, rfl, EqP.f fun e => h (by subst e; rfl)⟩
 ·skip
  refine jk rfl (jb rfl (jH (jH (jH (jH (jH (jk rfl (jg rfl (jM (jR ?_))))))))))
  exact jP [] (jr1 rfl (jtB rfl)) ⟨rfl, rfl, EqP.f fun e => h (by subst e; rfl)⟩
 ·skip
  refine jb rfl (jH (jH (jH (jH (jH (jk rfl (jb rfl (jH (jH (jH (jH (jH (jk rfl (jg rfl (jM (jR ?_))))))))))))))))
  exact jP [] (jr1 rfl (jtB rfl)) ⟨rfl, rfl, EqP.f fun e => h (by subst e; rfl)⟩
theorem eqEnt (p q : Ent) (t u d r t2 u2 d2 r2 : Value) (I : Mem) (hp : p.at_ I t u d r) (hq : q.at_ I t2 u2 d2 r2) :
  Ctr Tryz.prog 82 [.agg (p.cs t u d r).toArray, .agg (q.cs t2 u2 d2 r2).toArray] I [] (Still I (EqP (p = q))) := by
 obtain ⟨a1, c1, a2, c2, a3, c3, a4, c4, rfl, rfl, rfl, rfl⟩ := hp.sl
 obtain ⟨b1, d1, b2, d2, b3, d3, b4, d4, rfl, rfl, rfl, rfl⟩ := hq.sl
 refine Ctr.intro Tryz.func82 rfl rfl rfl fun E F => ?_
 refine jS (WL.boxA rfl rfl (fun _ => ?_))
 refine jW ?_
 refine WL.boxA rfl rfl (fun _ => ?_)
 refine jW ?_
 refine jg rfl (jN (jm (jn rfl) (jm (jp 1 rfl rfl rfl) (jm (jn rfl) (jm (jp 2 rfl rfl rfl) ?_)))))
 refine WL.eqI rfl rfl rfl (fun h => ?_) (fun h => ?_)
 refine jb rfl (jG (jm (jn rfl) (jG (jm (jp 1 rfl rfl rfl) (jG (jm (jn rfl) (jG (jm (jp 2 rfl rfl rfl) (jG ?_)))))))))
 refine WL.eqB rfl rfl rfl (fun h => ?_) (fun h => ?_)
 refine jk rfl (jb rfl (jG (jm (jn rfl) (jG (jm (jp 1 rfl rfl rfl) (jG (jm (jn rfl) (jG (jm (jp 2 rfl rfl rfl) (jG ?_))))))))))
 refine WL.eqI rfl rfl rfl (fun h => ?_) (fun h => ?_)
 refine jk rfl (jb rfl (jG (jm (jn rfl) (jG (jm (jt 1 rfl rfl rfl) (jG (jm (jn rfl) (jG (jm (jt 2 rfl rfl rfl) (jG ?_))))))))))
 refine WL.callE rfl rfl (eqAtr p.atr q.atr _ _ _ _ _ _ _ _ _ hp.atr hq.atr) rfl (fun h => ?_) (fun h => ?_)
 refine jk rfl (jg rfl (jM (jR ?_)))
 refine jP [] (jr1 rfl (jtB rfl)) ?_
 rename_i h0 h1 h2
 exact ⟨rfl, rfl, EqP.t (Ent.of h0 h1 h2 h)⟩
 ·skip
  refine jk rfl (jg rfl (jM (jR ?_)))
  exact jP [] (jr1 rfl (jtB rfl)) ⟨rfl, rfl, EqP.f fun e => h (by subst e; rfl)⟩
 ·skip
  refine jk rfl (jb rfl (jH (jH (jH (jH (jH (jk rfl (jg rfl (jM (jR ?_))))))))))
  exact jP [] (jr1 rfl (jtB rfl)) ⟨rfl, rfl, EqP.f fun e => h (by subst e; rfl)⟩
 ·skip
  refine jk rfl (jb rfl (jH (jH (jH (jH (jH (jk rfl (jb rfl (jH (jH (jH (jH (jH (jk rfl (jg rfl (jM (jR ?_)))))))))))))))))
  exact jP [] (jr1 rfl (jtB rfl)) ⟨rfl, rfl, EqP.f fun e => h (by subst e; rfl)⟩
 ·skip
  refine jb rfl (jH (jH (jH (jH (jH (jk rfl (jb rfl (jH (jH (jH (jH (jH (jk rfl (jb rfl (jH (jH (jH (jH (jH (jk rfl (jg rfl (jM (jR ?_)))))))))))))))))))))))
  exact jP [] (jr1 rfl (jtB rfl)) ⟨rfl, rfl, EqP.f fun e => h (by subst e; rfl)⟩
theorem eqFunc (l m : List Ent) (v u : Value) (I : Mem) (hv : LsAt Ent.rep I l v) (hu : LsAt Ent.rep I m u) :
  Ctr Tryz.prog 81 [v, u, .func (.func 82) #[] #[]] I [] (Still I (EqP (l = m))) := by
 have hlb : l.length ≤ 9223372036854775807 := by obtain ⟨_, h, _⟩ := hv; exact h.le
 obtain ⟨a1, c1, rfl⟩ := hv.sl
 obtain ⟨a2, c2, rfl⟩ := hu.sl
 refine Ctr.intro Tryz.func81 rfl rfl rfl fun E F => ?_
 by_cases hne : l.length = m.length
 ·skip
  refine jS (jg rfl (jM (jB (jS (jc rfl (jm (jo rfl) (jc rfl (jm (jo rfl) (jz rfl rfl (jM (jE (jV (jA (jB (jS (jc rfl (jm (jo rfl) (ja rfl (jM (WC.block ?_))))))))))))))))))))
  refine WC.loop (fun q ρ' I' L' => ∃ k : Nat, q = l.length - k ∧ k ≤ l.length ∧ I' = I ∧ ρ' 1 = .slice a2 m.length c2 ∧ ρ' 2 = .func (.func 82) #[] #[] ∧ ρ' 15 = .slice a1 l.length c1 ∧ ρ' 16 = vi l.length ∧ ρ' 17 = vi k ∧ L' = [F] ∧ l.take k = m.take k)
   l.length ⟨0, rfl, by omega, rfl, rfl, rfl, rfl, rfl, rfl, rfl, rfl⟩ ?_
  rintro q ρ' I0 L' ⟨k, rfl, hk, rfl, h1, h2, h15, h16, h17, rfl, heq⟩
  refine ju5 h17 h16 h15 h2 h1 ?_
  by_cases hkn : k < l.length
  ·have hkm : k < m.length := by omega
   obtain ⟨b, off, cap', cs, he, ⟨t1, t2, t3, t4, rfl, hi⟩, hA⟩ := hv.get k hkn
   cases he
   obtain ⟨b', off', cap'', cs', he', ⟨u1, u2, u3, u4, rfl, hi'⟩, hA'⟩ := hu.get k hkm
   cases he'
   have htk := take_more heq hkn hkm
   generalize hx : l[k] = x at *
   generalize hy : m[k] = y at *
   obtain ⟨b1, r1, b2, r2, b3, r3, b4, r4, rfl, rfl, rfl, rfl⟩ := hi.sl
   obtain ⟨p1, q1, p2, q2, p3, q3, p4, q4, rfl, rfl, rfl, rfl⟩ := hi'.sl
   refine jS (jy rfl rfl (jM (jB (jF (jV (jA (jB (WC.block (jS (ja rfl (jm (jZ rfl rfl) (jm (Val.loadI rfl (by assumption) rfl) ?_))))))))))))
   refine WL.alloc rfl (fun _ => ?_)
   refine jW ?_
   refine jf rfl (WL.stA 1 rfl rfl rfl rfl ?_)
   refine jN (jc rfl (ja rfl (jm (jZ rfl rfl) (jm (Val.loadI rfl (by assumption) rfl) ?_))))
   refine WL.alloc rfl (fun _ => ?_)
   refine jW ?_
   refine WL.stA 2 rfl rfl rfl rfl ?_
   refine jN (jm (Val.moveF rfl) (jm (jt 1 rfl rfl rfl) (jm (jt 2 rfl rfl rfl) ?_)))
   refine WL.callE rfl rfl (eqEnt x y _ _ _ _ _ _ _ _ _ hi hi') rfl (fun h => ?_) (fun h => ?_)
   ·skip
    exact jl rfl (jM (jE (jV (WX.inNormal (jA (jD (jX rfl rfl (ja rfl (jC (WX.conv (fun w h => h.sub [0] rfl) (WX.thenK (WK.round (l.length - (k + 1)) (by omega) ⟨k + 1, rfl, by omega, rfl, rfl, rfl, rfl, rfl, rfl, rfl, htk h⟩))))))))))))
   ·skip
    refine jl rfl (jM (jF (jS (jg rfl (jM (jR (WX.inRet (jU (jU (WX.inRet (jU ?_)))))))))))
    refine jP [] (jr1 rfl (jtB rfl)) ?_
    refine ⟨rfl, rfl, EqP.f fun e => ?_⟩
    subst e
    exact h (hx.symm.trans hy)
  ·skip
   refine jS (jx rfl rfl (jM (jB (jE (WC.exit (WX.thenExit (WX.thenExit (WX.inHit (jK (jg rfl (jM (jR ?_))))))))))))
   refine jP [] (jr1 rfl (jtB rfl)) ?_
   refine ⟨rfl, rfl, EqP.t ?_⟩
   have : k = l.length := by omega
   rw [this, List.take_length, hne, List.take_length] at heq
   exact heq
 ·skip
  refine jS (jg rfl (jM (jB (jS (jc rfl (jm (jo rfl) (jc rfl (jm (jo rfl) (jJ rfl rfl (jM (jF (jS (jg rfl (jM (jR (jU ?_))))))))))))))))
  exact jP [] (jr1 rfl (jtB rfl)) ⟨rfl, rfl, EqP.f fun h => hne (by rw [h])⟩
theorem eqSame (l m : List Ent) (v u : Value) (I : Mem) (hv : LsAt Ent.rep I l v) (hu : LsAt Ent.rep I m u) :
  Ctr Tryz.prog 33 [v, u] I [] (Still I (EqP (l = m))) := by
 have hv0 := hv
 have hu0 := hu
 obtain ⟨a1, c1, rfl⟩ := hv.sl
 obtain ⟨a2, c2, rfl⟩ := hu.sl
 refine Ctr.intro Tryz.func33 rfl rfl rfl fun E F => ?_
 refine jS (jg rfl (jN (jc rfl (jc rfl ?_))))
 refine WL.callE rfl rfl (eqFunc _ _ _ _ _ hv hu) rfl (fun h => ?_) (fun h => ?_)
 ·skip
  refine jg rfl (jM (jR ?_))
  exact jP [] (jr1 rfl (jtB rfl)) ⟨rfl, rfl, EqP.t h⟩
 ·skip
  refine jg rfl (jM (jR ?_))
  exact jP [] (jr1 rfl (jtB rfl)) ⟨rfl, rfl, EqP.f h⟩
theorem room_ctr (a : Int) (I : Mem) : Ctr Tryz.prog 53 [vi a] I [] (Still I (EqP (Room a))) := by
 refine Ctr.intro Tryz.func53 rfl rfl rfl fun E F => ?_
 refine jS (jg rfl (jN (ja rfl ?_)))
 refine WL.geI rfl rfl rfl (fun h => ?_) (fun h => ?_)
 refine jb rfl (jG (ja rfl (jG ?_)))
 refine WL.leI rfl rfl rfl (fun h => ?_) (fun h => ?_)
 refine jk rfl (jg rfl (jM (jR ?_)))
 rotate_left
 refine jk rfl (jg rfl (jM (jR ?_)))
 rotate_left
 refine jb rfl (jH (jH (jk rfl (jg rfl (jM (jR ?_))))))
 rotate_left
 all_goals
  refine jP [] (jr1 rfl (jtB rfl)) ?_
 all_goals refine ⟨rfl, rfl, ?_⟩
 all_goals unfold Room
 all_goals first | exact EqP.t (by omega) | exact EqP.f (by omega)
theorem inn_ctr (p : Pt) (I : Mem) : Ctr Tryz.prog 60 [.agg p.cs.toArray] I [] (Still I (EqP p.inn)) := by
 refine Ctr.intro Tryz.func60 rfl rfl rfl fun E F => ?_
 refine jS (WL.boxA rfl rfl (fun _ => ?_))
 refine jW ?_
 refine jg rfl (jN (jm (jn rfl) (jm (jp 1 rfl rfl rfl) ?_)))
 refine WL.callE rfl rfl (room_ctr p.x _) rfl (fun h => ?_) (fun h => ?_)
 ·skip
  refine jb rfl (jG (jm (jn rfl) (jG (jm (jp 1 rfl rfl rfl) (jG ?_)))))
  refine WL.callE rfl rfl (room_ctr p.y _) rfl (fun h2 => ?_) (fun h2 => ?_)
  ·skip
   refine jk rfl (jg rfl (jM (jR ?_)))
   exact jP [] (jr1 rfl (jtB rfl)) ⟨rfl, rfl, EqP.t ⟨h, h2⟩⟩
  ·skip
   refine jk rfl (jg rfl (jM (jR ?_)))
   exact jP [] (jr1 rfl (jtB rfl)) ⟨rfl, rfl, EqP.f fun e => h2 e.2⟩
 ·skip
  refine jb rfl (jH (jH (jH (jk rfl (jg rfl (jM (jR ?_)))))))
  exact jP [] (jr1 rfl (jtB rfl)) ⟨rfl, rfl, EqP.f fun e => h e.1⟩
theorem colRight_ctr (c : Col) (I : Mem) : Ctr Tryz.prog 93 [.agg c.cs.toArray] I [] (Still I (EqP c.right)) := by
 refine Ctr.intro Tryz.func93 rfl rfl rfl fun E F => ?_
 refine jS (WL.boxA rfl rfl (fun _ => ?_))
 refine jW ?_
 refine jg rfl (jN (jm (Val.indexAddrA rfl rfl (by omega) (by omega)) ?_))
 refine jm (jp 1 rfl rfl rfl) (jm (Val.indexAddrA rfl rfl (by omega) (by omega)) ?_)
 refine jm (jp 1 rfl rfl rfl) (jm (Val.indexAddrA rfl rfl (by omega) (by omega)) ?_)
 refine jm (jp 1 rfl rfl rfl) (jm (Val.max3 rfl rfl rfl) ?_)
 refine jm (Val.indexAddrA rfl rfl (by omega) (by omega)) ?_
 refine jm (jp 1 rfl rfl rfl) ?_
 refine WL.leI rfl rfl rfl (fun h => ?_) (fun h => ?_)
 refine jg rfl (jM (jR ?_))
 rotate_left
 refine jg rfl (jM (jR ?_))
 rotate_left
 all_goals
  refine jP [] (jr1 rfl (jtB rfl)) ?_
 all_goals refine ⟨rfl, rfl, ?_⟩
 all_goals unfold Col.right
 all_goals first | exact EqP.t (by omega) | exact EqP.f (by omega)
theorem near_ctr (p : Pt) (I : Mem) : Ctr Tryz.prog 94 [.agg p.cs.toArray] I [] (Still I (EqP p.near)) := by
 refine Ctr.intro Tryz.func94 rfl rfl rfl fun E F => ?_
 refine jS (WL.boxA rfl rfl (fun _ => ?_))
 refine jW ?_
 refine jg rfl (jN (jm (jn rfl) (jm (jp 1 rfl rfl rfl) (jm (jn rfl) (jm (jp 1 rfl rfl rfl) (jm (Val.minI rfl rfl) ?_))))))
 by_cases h1 : -16777216 ≤ min p.x p.y
 ·skip
  refine jm (Val.geq rfl rfl (decide_eq_true (by omega))) ?_
  refine jb rfl (jG (jm (jn rfl) (jG (jm (jp 1 rfl rfl rfl) (jG (jm (jn rfl) (jG (jm (jp 1 rfl rfl rfl) (jG (jm (Val.maxI rfl rfl) ?_))))))))))
  refine jG ?_
  refine WL.leI rfl rfl rfl (fun h => ?_) (fun h => ?_)
  refine jk rfl (jg rfl (jM (jR ?_)))
  rotate_left
  refine jk rfl (jg rfl (jM (jR ?_)))
  rotate_left
  all_goals
   refine jP [] (jr1 rfl (jtB rfl)) ?_
  all_goals refine ⟨rfl, rfl, ?_⟩
  all_goals unfold Pt.near
  all_goals first | exact EqP.t (by omega) | exact EqP.f (by omega)
 ·skip
  refine jm (Val.geq rfl rfl (decide_eq_false (by omega))) ?_
  refine jb rfl (jH (jH (jH (jH (jH (jH (jk rfl (jg rfl (jM (jR ?_))))))))))
  refine jP [] (jr1 rfl (jtB rfl)) ?_
  refine ⟨rfl, rfl, EqP.f ?_⟩
  unfold Pt.near
  omega
theorem mtxRight_ctr (m : Mtx) (I : Mem) : Ctr Tryz.prog 16 [.agg m.cs.toArray] I [] (Still I (EqP m.right)) := by
 refine Ctr.intro Tryz.func16 rfl rfl rfl fun E F => ?_
 refine jS (WL.boxA rfl rfl (fun _ => ?_))
 refine jW ?_
 refine jg rfl (jM (jB (jS (jm (jn rfl) (jm (jp 1 rfl rfl rfl) (jm (jn rfl) (jm (jp 1 rfl rfl rfl) (jm (jn rfl) (jm (jp 1 rfl rfl rfl) (jm (jn rfl) (jm (jp 1 rfl rfl rfl) (jm (Val.build (cs := [vi m.a, vi m.b, vi m.c, vi m.d]) rfl) ?_))))))))))))
 refine ja rfl (jM (WC.block ?_))
 rename_i g
 refine WC.loop (fun n ρ' I' L' => ∃ k : Nat, n = 4 - k ∧ k ≤ 4 ∧ I' = I ∧ ρ' 1 = ptr g ∧ ρ' 13 = .agg #[vi m.a, vi m.b, vi m.c, vi m.d] ∧ ρ' 14 = vi k ∧ L' = [F, box g 23 m.cs] ∧ (0 < k → Ety m.a) ∧ (1 < k → Ety m.b) ∧ (2 < k → Ety m.c) ∧ (3 < k → Ety m.d))
  4 ⟨0, rfl, by omega, rfl, rfl, rfl, rfl, rfl, fun h => by omega, fun h => by omega, fun h => by omega, fun h => by omega⟩ ?_
 rintro n ρ' I0 L' ⟨k, rfl, hk4, rfl, h1, h13, h14, rfl, q0, q1, q2, q3⟩
 refine ju3 h14 h13 h1 ?_
 have hcase : k = 0 ∨ k = 1 ∨ k = 2 ∨ k = 3 ∨ k = 4 := by omega
 rcases hcase with rfl | rfl | rfl | rfl | rfl
 ·skip
  refine jS (jy rfl rfl (jM (jB (jF (jV (jA (jB (WC.block (jS (jm (Val.index1 (v := vi m.a) rfl rfl (by decide) (by decide) rfl) ?_))))))))))
  by_cases hq : Ety m.a
  ·have hq' : -16777216 ≤ m.a ∧ m.a ≤ 16777216 := hq
   exact jf rfl (jN (ja rfl (jx rfl rfl (jb rfl (jG (ja rfl (jG (jL rfl rfl (jk rfl (jM (jE (jV (WX.inNormal (jA (jD (jX rfl rfl (ja rfl (jC (WX.thenK (WK.round 3 (by omega) ⟨1, rfl, by omega, rfl, rfl, rfl, rfl, rfl, fun h => hq, fun h => by omega, fun h => by omega, fun h => by omega⟩))))))))))))))))))))
  ·have hq' : ¬ (-16777216 ≤ m.a ∧ m.a ≤ 16777216) := hq
   refine jf rfl (jN (ja rfl ?_))
   refine WL.ltI rfl rfl rfl (fun h => ?_) (fun h => ?_)
   refine jb rfl (jH (jH (jk rfl (jM (jF (jS (jg rfl (jM (jR (WX.inRet (jU (jU (WX.inRet (jU ?_))))))))))))))
   rotate_left
   refine jb rfl (jG (ja rfl (jG (jO rfl rfl (jk rfl (jM (jF (jS (jg rfl (jM (jR (WX.inRet (jU (jU (WX.inRet (jU ?_))))))))))))))))
   rotate_left
   all_goals
    refine jP [] (jr1 rfl (jtB rfl)) ?_
   all_goals exact ⟨rfl, rfl, EqP.f fun e => hq e.1.1⟩
 ·skip
  refine jS (jy rfl rfl (jM (jB (jF (jV (jA (jB (WC.block (jS (jm (Val.index1 (v := vi m.b) rfl rfl (by decide) (by decide) rfl) ?_))))))))))
  by_cases hq : Ety m.b
  ·have hq' : -16777216 ≤ m.b ∧ m.b ≤ 16777216 := hq
   exact jf rfl (jN (ja rfl (jx rfl rfl (jb rfl (jG (ja rfl (jG (jL rfl rfl (jk rfl (jM (jE (jV (WX.inNormal (jA (jD (jX rfl rfl (ja rfl (jC (WX.thenK (WK.round 2 (by omega) ⟨2, rfl, by omega, rfl, rfl, rfl, rfl, rfl, fun h => q0 (by omega), fun h => hq, fun h => by omega, fun h => by omega⟩))))))))))))))))))))
  ·have hq' : ¬ (-16777216 ≤ m.b ∧ m.b ≤ 16777216) := hq
   refine jf rfl (jN (ja rfl ?_))
   refine WL.ltI rfl rfl rfl (fun h => ?_) (fun h => ?_)
   refine jb rfl (jH (jH (jk rfl (jM (jF (jS (jg rfl (jM (jR (WX.inRet (jU (jU (WX.inRet (jU ?_))))))))))))))
   rotate_left
   refine jb rfl (jG (ja rfl (jG (jO rfl rfl (jk rfl (jM (jF (jS (jg rfl (jM (jR (WX.inRet (jU (jU (WX.inRet (jU ?_))))))))))))))))
   rotate_left
   all_goals
    refine jP [] (jr1 rfl (jtB rfl)) ?_
   all_goals exact ⟨rfl, rfl, EqP.f fun e => hq e.1.2.1⟩
 ·skip
  refine jS (jy rfl rfl (jM (jB (jF (jV (jA (jB (WC.block (jS (jm (Val.index1 (v := vi m.c) rfl rfl (by decide) (by decide) rfl) ?_))))))))))
  by_cases hq : Ety m.c
  ·have hq' : -16777216 ≤ m.c ∧ m.c ≤ 16777216 := hq
   exact jf rfl (jN (ja rfl (jx rfl rfl (jb rfl (jG (ja rfl (jG (jL rfl rfl (jk rfl (jM (jE (jV (WX.inNormal (jA (jD (jX rfl rfl (ja rfl (jC (WX.thenK (WK.round 1 (by omega) ⟨3, rfl, by omega, rfl, rfl, rfl, rfl, rfl, fun h => q0 (by omega), fun h => q1 (by omega), fun h => hq, fun h => by omega⟩))))))))))))))))))))
  ·have hq' : ¬ (-16777216 ≤ m.c ∧ m.c ≤ 16777216) := hq
   refine jf rfl (jN (ja rfl ?_))
   refine WL.ltI rfl rfl rfl (fun h => ?_) (fun h => ?_)
   refine jb rfl (jH (jH (jk rfl (jM (jF (jS (jg rfl (jM (jR (WX.inRet (jU (jU (WX.inRet (jU ?_))))))))))))))
   rotate_left
   refine jb rfl (jG (ja rfl (jG (jO rfl rfl (jk rfl (jM (jF (jS (jg rfl (jM (jR (WX.inRet (jU (jU (WX.inRet (jU ?_))))))))))))))))
   rotate_left
   all_goals
    refine jP [] (jr1 rfl (jtB rfl)) ?_
   all_goals exact ⟨rfl, rfl, EqP.f fun e => hq e.1.2.2.1⟩
 ·skip
  refine jS (jy rfl rfl (jM (jB (jF (jV (jA (jB (WC.block (jS (jm (Val.index1 (v := vi m.d) rfl rfl (by decide) (by decide) rfl) ?_))))))))))
  by_cases hq : Ety m.d
  ·have hq' : -16777216 ≤ m.d ∧ m.d ≤ 16777216 := hq
   exact jf rfl (jN (ja rfl (jx rfl rfl (jb rfl (jG (ja rfl (jG (jL rfl rfl (jk rfl (jM (jE (jV (WX.inNormal (jA (jD (jX rfl rfl (ja rfl (jC (WX.thenK (WK.round 0 (by omega) ⟨4, rfl, by omega, rfl, rfl, rfl, rfl, rfl, fun h => q0 (by omega), fun h => q1 (by omega), fun h => q2 (by omega), fun h => hq⟩))))))))))))))))))))
  ·have hq' : ¬ (-16777216 ≤ m.d ∧ m.d ≤ 16777216) := hq
   refine jf rfl (jN (ja rfl ?_))
   refine WL.ltI rfl rfl rfl (fun h => ?_) (fun h => ?_)
   refine jb rfl (jH (jH (jk rfl (jM (jF (jS (jg rfl (jM (jR (WX.inRet (jU (jU (WX.inRet (jU ?_))))))))))))))
   rotate_left
   refine jb rfl (jG (ja rfl (jG (jO rfl rfl (jk rfl (jM (jF (jS (jg rfl (jM (jR (WX.inRet (jU (jU (WX.inRet (jU ?_))))))))))))))))
   rotate_left
   all_goals
    refine jP [] (jr1 rfl (jtB rfl)) ?_
   all_goals exact ⟨rfl, rfl, EqP.f fun e => hq e.1.2.2.2⟩
 ·have q := And.intro (q0 (by omega)) (And.intro (q1 (by omega)) (And.intro (q2 (by omega)) (q3 (by omega))))
  refine jS (jx rfl rfl (jM (jB (jE (WC.exit (WX.thenExit (WX.thenExit (WX.inHit (jK (jm (jn rfl) (jm (jp 1 rfl rfl rfl) ?_)))))))))))
  refine WL.callE rfl rfl (room_ctr m.e _) rfl (fun h => ?_) (fun h => ?_)
  ·skip
   refine jb rfl (jG (jm (jn rfl) (jG (jm (jp 1 rfl rfl rfl) (jG ?_)))))
   refine WL.callE rfl rfl (room_ctr m.f _) rfl (fun h2 => ?_) (fun h2 => ?_)
   ·skip
    refine jk rfl (jg rfl (jM (jR ?_)))
    exact jP [] (jr1 rfl (jtB rfl)) ⟨rfl, rfl, EqP.t ⟨q, h, h2⟩⟩
   ·skip
    refine jk rfl (jg rfl (jM (jR ?_)))
    exact jP [] (jr1 rfl (jtB rfl)) ⟨rfl, rfl, EqP.f fun e => h2 e.2.2⟩
  ·skip
   refine jb rfl (jH (jH (jH (jk rfl (jg rfl (jM (jR ?_)))))))
   exact jP [] (jr1 rfl (jtB rfl)) ⟨rfl, rfl, EqP.f fun e => h e.2.1⟩
end Go.Proofs.YtggcpoleklcmkaaGreatDoor
