/-
  Tree, plain law: what a node's kids being others does to what is found, how deep, how high.
-/
import Derived.Test.YtfdeckdongonnabN5
import Derived.Test.YtfdeckdongonnabN7
import Derived.Test.YtfdeckdongonnabB3
import Derived.Test.YtfdeckdongonnabB2
namespace Go.Tr
open Go.Sl Go.Ls
namespace Nd
theorem find_with {q : Int} (ks : List Nd) (n : Nd) : ∀ p, Nd.find q n = some p → Nd.find q (Nd.with_ q ks n) = some (.mk q p.grp ks) := by
  refine Nd.rec (motive_1 := fun n => ∀ p, Nd.find q n = some p → Nd.find q (Nd.with_ q ks n) = some (.mk q p.grp ks)) (motive_2 := fun l => ∀ p, finds q l = some p → finds q (withs q ks l) = some (.mk q p.grp ks)) ?_ ?_ ?_ n
  · intro j g ks0 ih p hp
    rw [Nd.find] at hp
    rw [Nd.with_, Nd.find]
    by_cases hj : j = q
    · rw [if_pos hj] at hp ⊢
      cases hp
      subst hj
      rw [if_pos rfl]; rfl
    · rw [if_neg hj] at hp ⊢
      rw [if_neg hj]
      exact ih p hp
  · intro p hp; simp [finds] at hp
  · intro k l h1 h2 p hp
    rw [finds] at hp
    rw [withs, finds]
    cases hk : Nd.find q k with
    | some x => rw [hk] at hp; cases hp; rw [h1 _ hk]; rfl
    | none =>
      rw [hk] at hp
      have hn : q ∉ k.order := fun hm => by
        have := (find_some q k).2 hm
        rw [hk] at this; cases this
      rw [with_none q ks k hn, hk]
      exact h2 _ hp
theorem with_with {q : Int} (ks ks' : List Nd) (n : Nd) : Nd.with_ q ks' (Nd.with_ q ks n) = Nd.with_ q ks' n := by
  refine Nd.rec (motive_1 := fun n => Nd.with_ q ks' (Nd.with_ q ks n) = Nd.with_ q ks' n) (motive_2 := fun l => withs q ks' (withs q ks l) = withs q ks' l) ?_ ?_ ?_ n
  · intro j g ks0 ih
    rw [Nd.with_, Nd.with_, Nd.with_]
    by_cases hj : j = q
    · rw [if_pos hj, if_pos hj]
    · rw [if_neg hj, if_neg hj, if_neg hj, ih]
  · rfl
  · intro k l h1 h2
    rw [withs, withs, withs, h1, h2]
theorem with_self {q : Int} (n : Nd) : ∀ p, n.order.Nodup → Nd.find q n = some p → Nd.with_ q p.kids n = n := by
  refine Nd.rec (motive_1 := fun n => ∀ p, n.order.Nodup → Nd.find q n = some p → Nd.with_ q p.kids n = n) (motive_2 := fun l => ∀ p, (orders l).Nodup → finds q l = some p → withs q p.kids l = l) ?_ ?_ ?_ n
  · intro j g ks0 ih p ho hp
    rw [Nd.find] at hp
    rw [Nd.with_]
    rw [order, List.nodup_cons] at ho
    by_cases hj : j = q
    · rw [if_pos hj] at hp; cases hp
      rw [if_pos hj]; rfl
    · rw [if_neg hj] at hp
      rw [if_neg hj, ih p ho.2 hp]
  · intro p _ hp; simp [finds] at hp
  · intro k l h1 h2 p ho hp
    rw [finds] at hp
    rw [orders, List.nodup_append] at ho
    rw [withs]
    cases hk : Nd.find q k with
    | some x =>
      rw [hk] at hp; cases hp
      have hq : q ∈ k.order := (find_some q k).1 (by rw [hk]; rfl)
      rw [h1 _ ho.1 hk, withs_none q _ l fun hl => ho.2.2 q hq q hl rfl]
    | none =>
      rw [hk] at hp
      have hn : q ∉ k.order := fun hm => by
        have := (find_some q k).2 hm
        rw [hk] at this; cases this
      rw [with_none q _ k hn, h2 _ ho.2.1 hp]
theorem depth_with {q : Int} (ks : List Nd) (n : Nd) : Nd.depth q (Nd.with_ q ks n) = Nd.depth q n := by
  refine Nd.rec (motive_1 := fun n => Nd.depth q (Nd.with_ q ks n) = Nd.depth q n) (motive_2 := fun l => depths q (withs q ks l) = depths q l) ?_ ?_ ?_ n
  · intro j g ks0 ih
    rw [Nd.with_, Nd.depth, Nd.depth]
    by_cases hj : j = q
    · rw [if_pos hj, if_pos hj]
    · rw [if_neg hj, if_neg hj, if_neg hj, ih]
  · rfl
  · intro k l h1 h2
    rw [withs, depths, depths, h1, h2]
theorem depths_ge (i : Int) : ∀ l : List Nd, -1 ≤ depths i l
  | [] => by simp [depths]
  | k :: l => by
    rw [depths]
    split
    · omega
    · exact depths_ge i l
/-- How deep, and how high from there. -/
theorem depth_height {q : Int} (n : Nd) : ∀ p, Nd.find q n = some p → 0 ≤ Nd.depth q n ∧ Nd.depth q n + p.height ≤ n.height := by
  refine Nd.rec (motive_1 := fun n => ∀ p, Nd.find q n = some p → 0 ≤ Nd.depth q n ∧ Nd.depth q n + p.height ≤ n.height) (motive_2 := fun l => ∀ p, finds q l = some p → 0 ≤ depths q l ∧ depths q l + p.height ≤ (heights l : Int) + 1) ?_ ?_ ?_ n
  · intro j g ks0 ih p hp
    rw [Nd.find] at hp
    rw [Nd.depth]
    by_cases hj : j = q
    · rw [if_pos hj] at hp; cases hp
      rw [if_pos hj]; omega
    · rw [if_neg hj] at hp
      rw [if_neg hj, Nd.height]
      have := ih p hp
      omega
  · intro p hp; simp [finds] at hp
  · intro k l h1 h2 p hp
    rw [finds] at hp
    rw [depths, heights]
    cases hk : Nd.find q k with
    | some x =>
      rw [hk] at hp; cases hp
      have := h1 _ hk
      rw [if_pos this.1]
      omega
    | none =>
      rw [hk] at hp
      have hn : q ∉ k.order := fun hm => by
        have := (find_some q k).2 hm
        rw [hk] at this; cases this
      have := h2 _ hp
      rw [depth_none q k hn, if_neg (by decide)]
      omega
theorem height_with {q : Int} (ks : List Nd) (n : Nd) : ∀ p, Nd.find q n = some p → n.order.Nodup → ((Nd.with_ q ks n).height : Int) ≤ max (n.height : Int) (Nd.depth q n + 1 + heights ks) := by
  refine Nd.rec (motive_1 := fun n => ∀ p, Nd.find q n = some p → n.order.Nodup → ((Nd.with_ q ks n).height : Int) ≤ max (n.height : Int) (Nd.depth q n + 1 + heights ks)) (motive_2 := fun l => ∀ p, finds q l = some p → (orders l).Nodup → (heights (withs q ks l) : Int) ≤ max (heights l : Int) (depths q l + heights ks)) ?_ ?_ ?_ n
  · intro j g ks0 ih p hp ho
    rw [Nd.find] at hp
    rw [Nd.with_, Nd.depth, Nd.height, Nd.height]
    rw [order, List.nodup_cons] at ho
    by_cases hj : j = q
    · rw [if_pos hj, if_pos hj]; omega
    · rw [if_neg hj] at hp
      rw [if_neg hj, if_neg hj]
      have := ih p hp ho.2
      omega
  · intro p hp; simp [finds] at hp
  · intro k l h1 h2 p hp ho
    rw [finds] at hp
    rw [orders, List.nodup_append] at ho
    rw [withs, depths, heights, heights]
    cases hk : Nd.find q k with
    | some x =>
      have hq : q ∈ k.order := (find_some q k).1 (by rw [hk]; rfl)
      have h3 := h1 _ hk ho.1
      have h4 := (depth_height k _ hk).1
      rw [withs_none q _ l fun hl => ho.2.2 q hq q hl rfl, if_pos h4]
      omega
    | none =>
      rw [hk] at hp
      have hn : q ∉ k.order := fun hm => by
        have := (find_some q k).2 hm
        rw [hk] at this; cases this
      have h3 := h2 _ hp ho.2.1
      rw [with_none q _ k hn, depth_none q k hn, if_neg (by decide)]
      omega
theorem order_with {q x : Int} (ks : List Nd) (n : Nd) : x ∈ (Nd.with_ q ks n).order → x ∈ n.order ∨ x ∈ orders ks := by
  refine Nd.rec (motive_1 := fun n => x ∈ (Nd.with_ q ks n).order → x ∈ n.order ∨ x ∈ orders ks) (motive_2 := fun l => x ∈ orders (withs q ks l) → x ∈ orders l ∨ x ∈ orders ks) ?_ ?_ ?_ n
  · intro j g ks0 ih h
    rw [Nd.with_, order, List.mem_cons] at h
    rw [order, List.mem_cons]
    rcases h with h | h
    · exact .inl (.inl h)
    · by_cases hj : j = q
      · rw [if_pos hj] at h; exact .inr h
      · rw [if_neg hj] at h
        exact (ih h).imp .inr fun y => y
  · intro h; exact .inl h
  · intro k l h1 h2 h
    rw [withs, orders, List.mem_append] at h
    rw [orders, List.mem_append]
    rcases h with h | h
    · exact (h1 h).imp .inl fun y => y
    · exact (h2 h).imp .inr fun y => y
theorem find_order {q x : Int} {n p : Nd} (hp : Nd.find q n = some p) : x ∈ p.order → x ∈ n.order := by
  have key : ∀ n : Nd, ∀ p, Nd.find q n = some p → x ∈ p.order → x ∈ n.order := fun n => by
    refine Nd.rec (motive_1 := fun n => ∀ p, Nd.find q n = some p → x ∈ p.order → x ∈ n.order) (motive_2 := fun l => ∀ p, finds q l = some p → x ∈ p.order → x ∈ orders l) ?_ ?_ ?_ n
    · intro j g ks0 ih p hp hx
      rw [Nd.find] at hp
      by_cases hj : j = q
      · rw [if_pos hj] at hp; cases hp; exact hx
      · rw [if_neg hj] at hp
        rw [order]; exact List.mem_cons_of_mem _ (ih p hp hx)
    · intro p hp; simp [finds] at hp
    · intro k l h1 h2 p hp hx
      rw [finds] at hp
      rw [orders, List.mem_append]
      cases hk : Nd.find q k with
      | some y => rw [hk] at hp; cases hp; exact .inl (h1 _ hk hx)
      | none => rw [hk] at hp; exact .inr (h2 _ hp hx)
  exact key n p hp
/-- A node that may come in. -/
theorem wrong_zero (top : Nd) (n : Nd) : ∀ (seen : List Int) (d : Int), (∀ x ∈ n.order, 1 ≤ x ∧ x ≤ 2147483648 ∧ x ∉ top.order ∧ x ∉ seen) → n.order.Nodup → Gp n → d + n.height - 1 ≤ 64 → wrong top n seen d = (0, seen ++ n.order) := by
  refine Nd.rec (motive_1 := fun n => ∀ (seen : List Int) (d : Int), (∀ x ∈ n.order, 1 ≤ x ∧ x ≤ 2147483648 ∧ x ∉ top.order ∧ x ∉ seen) → n.order.Nodup → Gp n → d + n.height - 1 ≤ 64 → wrong top n seen d = (0, seen ++ n.order))
    (motive_2 := fun l => ∀ (seen : List Int) (d : Int), (∀ x ∈ orders l, 1 ≤ x ∧ x ≤ 2147483648 ∧ x ∉ top.order ∧ x ∉ seen) → (orders l).Nodup → Alls (fun _ g ks => ks ≠ [] → g = true) l → d + heights l - 1 ≤ 64 → wrongs top l seen d = (0, seen ++ orders l)) ?_ ?_ ?_ n
  · intro i g ks ih seen d hx ho hg hd
    have hi := hx i (by rw [order]; exact List.mem_cons_self ..)
    rw [order, List.nodup_cons] at ho
    rw [Gp, All] at hg
    rw [Nd.height] at hd
    rw [wrong, if_neg (by omega), if_neg (fun h => hi.2.2.1 ((find_some i top).1 h)), if_neg hi.2.2.2, if_neg, if_neg (by omega), ih (seen ++ [i]) (d + 1) ?_ ho.2 hg.2 (by omega), order]
    · simp
    · intro x hxm
      have := hx x (by rw [order]; exact List.mem_cons_of_mem _ hxm)
      refine ⟨this.1, this.2.1, this.2.2.1, fun hm => ?_⟩
      rcases List.mem_append.1 hm with hm | hm
      · exact this.2.2.2 hm
      · rw [List.mem_singleton] at hm; subst hm; exact ho.1 hxm
    · rintro ⟨h1, h2⟩
      have := hg.1 (List.length_pos_iff.1 h2)
      rw [h1] at this; cases this
  · intro seen d _ _ _ _; simp [wrongs, orders]
  · intro k l h1 h2 seen d hx ho hg hd
    rw [orders, List.nodup_append] at ho
    rw [Alls] at hg
    rw [heights] at hd
    have e1 := h1 seen d (fun x hm => hx x (by rw [orders]; exact List.mem_append_left _ hm)) ho.1 hg.1 (by omega)
    have e2 := h2 (seen ++ k.order) d (fun x hm => by
      have := hx x (by rw [orders]; exact List.mem_append_right _ hm)
      refine ⟨this.1, this.2.1, this.2.2.1, fun hs => ?_⟩
      rcases List.mem_append.1 hs with hs | hs
      · exact this.2.2.2 hs
      · exact ho.2.2 x hs x hm rfl) ho.2.1 hg.2 (by omega)
    rw [wrongs, e1, if_pos rfl, e2, orders, List.append_assoc]
theorem fits_zero {top n : Nd} {d : Int} (hs : top.size + n.size ≤ 65537) (hx : ∀ x ∈ n.order, 1 ≤ x ∧ x ≤ 2147483648 ∧ x ∉ top.order) (ho : n.order.Nodup) (hg : Gp n) (hd : d + n.height - 1 ≤ 64) : fits top n d = 0 := by
  rw [fits, if_neg (by omega), wrong_zero top n [] d (fun x h => ⟨(hx x h).1, (hx x h).2.1, (hx x h).2.2, List.not_mem_nil⟩) ho hg hd]
end Nd
end Go.Tr

/-
  Tree, plain law: what holds of every tree that calls lead to.
-/

namespace Go.Tr
open Go.Sl Go.Ls
namespace Nd
theorem size_with {q : Int} (ks : List Nd) (n : Nd) : ∀ p, Nd.find q n = some p → n.order.Nodup → (Nd.with_ q ks n).size + sizes p.kids = n.size + sizes ks := by
  refine Nd.rec (motive_1 := fun n => ∀ p, Nd.find q n = some p → n.order.Nodup → (Nd.with_ q ks n).size + sizes p.kids = n.size + sizes ks) (motive_2 := fun l => ∀ p, finds q l = some p → (orders l).Nodup → sizes (withs q ks l) + sizes p.kids = sizes l + sizes ks) ?_ ?_ ?_ n
  · intro j g ks0 ih p hp ho
    rw [Nd.find] at hp
    rw [Nd.with_, Nd.size, Nd.size]
    rw [order, List.nodup_cons] at ho
    by_cases hj : j = q
    · rw [if_pos hj] at hp; cases hp
      rw [if_pos hj]
      show 1 + sizes ks + sizes ks0 = _
      omega
    · rw [if_neg hj] at hp
      rw [if_neg hj]
      have := ih p hp ho.2
      omega
  · intro p hp; simp [finds] at hp
  · intro k l h1 h2 p hp ho
    rw [finds] at hp
    rw [orders, List.nodup_append] at ho
    rw [withs, sizes, sizes]
    cases hk : Nd.find q k with
    | some x =>
      rw [hk] at hp; cases hp
      have hq : q ∈ k.order := (find_some q k).1 (by rw [hk]; rfl)
      have h3 := h1 _ hk ho.1
      rw [withs_none q _ l fun hl => ho.2.2 q hq q hl rfl]
      omega
    | none =>
      rw [hk] at hp
      have hn : q ∉ k.order := fun hm => by
        have := (find_some q k).2 hm
        rw [hk] at this; cases this
      have h3 := h2 _ hp ho.2.1
      rw [with_none q _ k hn]
      omega
theorem wrong_height (top : Nd) (n : Nd) : ∀ (seen : List Int) (d : Int), (wrong top n seen d).1 = 0 → d + n.height - 1 ≤ 64 := by
  refine Nd.rec (motive_1 := fun n => ∀ (seen : List Int) (d : Int), (Nd.wrong top n seen d).1 = 0 → d + n.height - 1 ≤ 64)
    (motive_2 := fun l => ∀ (seen : List Int) (d : Int), (wrongs top l seen d).1 = 0 → heights l = 0 ∨ d + heights l - 1 ≤ 64) ?_ ?_ ?_ n
  · intro i g ks ih seen d h
    simp only [Nd.wrong] at h
    by_cases h1 : i < 1 ∨ 2147483648 < i
    · rw [if_pos h1] at h; exact absurd h (by show ¬ (30 : Int) = 0; decide)
    rw [if_neg h1] at h
    by_cases h2 : (Nd.find i top).isSome = true
    · rw [if_pos h2] at h; exact absurd h (by show ¬ (32 : Int) = 0; decide)
    rw [if_neg h2] at h
    by_cases h3 : i ∈ seen
    · rw [if_pos h3] at h; exact absurd h (by show ¬ (32 : Int) = 0; decide)
    rw [if_neg h3] at h
    by_cases h4 : g = false ∧ 0 < ks.length
    · rw [if_pos h4] at h; exact absurd h (by show ¬ (33 : Int) = 0; decide)
    rw [if_neg h4] at h
    by_cases h5 : 64 < d
    · rw [if_pos h5] at h; exact absurd h (by show ¬ (35 : Int) = 0; decide)
    rw [if_neg h5] at h
    rw [Nd.height]
    have := ih _ _ h
    omega
  · intro seen d _; exact .inl rfl
  · intro k ks h1 h2 seen d h
    simp only [wrongs] at h
    by_cases hk : (Nd.wrong top k seen d).1 = 0
    · rw [if_pos hk] at h
      rw [heights]
      have e1 := h1 _ _ hk
      have e2 := h2 _ _ h
      omega
    · rw [if_neg hk] at h; exact absurd h hk
theorem fits_height {top n : Nd} {d : Int} (h : fits top n d = 0) : d + n.height - 1 ≤ 64 := by
  rw [Nd.fits] at h
  by_cases h1 : 65536 < (top.size : Int) - 1 + n.size
  · rw [if_pos h1] at h; cases h
  · rw [if_neg h1] at h; exact wrong_height top n [] d h
theorem heights_take (l : List Nd) (k : Nat) : heights (l.take k) ≤ heights l := by
  have := heights_app (l.take k) (l.drop k)
  rw [List.take_append_drop] at this
  omega
theorem heights_drop (l : List Nd) (k : Nat) : heights (l.drop k) ≤ heights l := by
  have := heights_app (l.take k) (l.drop k)
  rw [List.take_append_drop] at this
  omega
theorem orders_take {l : List Nd} {k : Nat} {x : Int} (h : x ∈ orders (l.take k)) : x ∈ orders l := by
  rw [← List.take_append_drop k l, orders_app]; exact List.mem_append_left _ h
theorem orders_drop {l : List Nd} {k : Nat} {x : Int} (h : x ∈ orders (l.drop k)) : x ∈ orders l := by
  rw [← List.take_append_drop k l, orders_app]; exact List.mem_append_right _ h
theorem sizes_td (l : List Nd) (k : Nat) : sizes (l.take k) + sizes (l.drop k) = sizes l := by
  rw [← sizes_app, List.take_append_drop]
theorem orders_kids {n : Nd} {x : Int} (h : x ∈ orders n.kids) : x ∈ n.order := by rw [order_eq]; exact List.mem_cons_of_mem _ h
theorem height_eq (n : Nd) : n.height = heights n.kids + 1 := by cases n; rfl
/-- What holds of every tree that calls lead to. -/
structure Good (t : Nd) : Prop where
  gp : Gp t
  ht : t.height ≤ 65
  ids : ∀ x ∈ t.order, x = 0 ∨ (1 ≤ x ∧ x ≤ 2147483648)
  sz : t.size ≤ 65537
variable {top : Nd}
theorem Good.of_with {q : Int} {p : Nd} {ks : List Nd} (g : Good top) (ho : top.order.Nodup) (hf : Nd.find q top = some p) (hp : p.grp = true) (hk : Alls (fun _ g ks => ks ≠ [] → g = true) ks)
    (hh : Nd.depth q top + 1 + heights ks ≤ 65) (hi : ∀ x ∈ orders ks, x = 0 ∨ (1 ≤ x ∧ x ≤ 2147483648)) (hs : top.size + sizes ks ≤ 65537 + sizes p.kids) : Good (Nd.with_ q ks top) := by
  refine ⟨g.gp.with_ (Ga.of top ho fun m hm => by rw [hf] at hm; cases hm; exact hp) hk, ?_, fun x hx => (order_with ks top hx).elim (g.ids x) (hi x), ?_⟩
  · have := height_with ks top p hf ho
    have := g.ht
    omega
  · have := size_with ks top p hf ho
    omega
theorem Good.deep {q : Int} {p : Nd} (g : Good top) (hf : Nd.find q top = some p) : Nd.depth q top + 1 + heights p.kids ≤ 65 := by
  have := (depth_height top p hf).2
  rw [height_eq p] at this
  have := g.ht
  omega
theorem Good.kids {q : Int} {p : Nd} (g : Good top) (hf : Nd.find q top = some p) {x : Int} (h : x ∈ orders p.kids) : x = 0 ∨ (1 ≤ x ∧ x ≤ 2147483648) := g.ids x (find_order hf (orders_kids h))
theorem Good.add (g : Good top) (ho : top.order.Nodup) (p ix : Int) (n : Nd) : Good (Nd.add top p ix n).1 := by
  rw [Nd.add]
  split
  · exact g
  · rename_i m hm
    split
    · exact g
    · rename_i hg
      split
      · exact g
      · split
        · exact g
        · rename_i hf
          have hf0 : Nd.fits top n (Nd.depth p top + 1) = 0 := Decidable.of_not_not hf
          obtain ⟨_, hx, hsz⟩ := fits_ok hf0
          have hh := fits_height hf0
          have hd := g.deep hm
          have hmp := (g.gp.found hm).kids
          refine g.of_with ho hm (by simpa using hg) (Alls.app (hmp.take _) (by rw [Alls]; exact ⟨Gp.fits hf0, hmp.drop _⟩)) ?_ (fun x hxm => ?_) ?_
          · rw [heights_app, heights]
            have := heights_take m.kids ix.toNat
            have := heights_drop m.kids ix.toNat
            omega
          · rw [orders_app, orders] at hxm
            rcases List.mem_append.1 hxm with h | h
            · exact g.kids hm (orders_take h)
            · rcases List.mem_append.1 h with h | h
              · exact .inr (hx x h).2
              · exact g.kids hm (orders_drop h)
          · rw [sizes_app, sizes]
            have := sizes_td m.kids ix.toNat
            omega
end Nd
end Go.Tr

/-
  Tree, plain law: what holds of every tree that calls lead to, whatever the call.
-/

namespace Go.Tr
open Go.Sl Go.Ls
section
variable {A : Ar} {top : Nd}
/-- A node is taken out, or it is not there. -/
theorem Abs.rem (h : Abs A top) (i : Int) : ((Nd.remove top i).2.2.2.2 ≠ 0 ∧ (Nd.remove top i).1 = top) ∨ ∃ (p : Nd) (k : Nat) (hk : k < p.kids.length), i ≠ 0 ∧ (p.kids[k]).id = i ∧ Nd.find i top = some p.kids[k] ∧ Nd.whr i top = some (p.id, (k : Int)) ∧ Nd.find p.id top = some p ∧
    Nd.remove top i = (Nd.with_ p.id (p.kids.take k ++ p.kids.drop (k + 1)) top, p.kids[k], p.id, (k : Int), 0) ∧ (Nd.with_ p.id (p.kids.take k ++ p.kids.drop (k + 1)) top).order.Nodup ∧ (p.kids[k]).order.Nodup ∧ ∀ x ∈ (Nd.with_ p.id (p.kids.take k ++ p.kids.drop (k + 1)) top).order, x ∉ (p.kids[k]).order := by
  by_cases h0 : i = 0
  · refine .inl ?_
    rw [Nd.remove, if_pos h0]
    exact ⟨by show (30 : Int) ≠ 0; decide, rfl⟩
  rcases h.cases i with ⟨_, hx⟩ | ⟨q, _, hq, hid, _⟩
  · refine .inl ?_
    rw [Nd.remove, if_neg h0, Nd.find_none _ _ hx]
    exact ⟨by show (31 : Int) ≠ 0; decide, rfl⟩
  · refine .inr ?_
    have hq0 : q ≠ 0 := fun e => h0 (by rw [← hid]; exact (h.ne0 hq).2 e)
    obtain ⟨y, k, yp, ny, n', R, RO, hk, hl, f, hkn, ht, hidn, hfi, hw, hfy, hrem⟩ := h.node hq hq0
    have hcut := (h.cut hl f hk hkn ht (.slice none 0 0)).2
    obtain ⟨o1, o2, o3⟩ := hcut.od h
    subst hkn
    rw [hid] at hidn hfi hw hrem
    exact ⟨ny, k, hk, h0, hidn, hfi, hw, hfy, hrem, o1, o2, o3⟩
end
namespace Nd
variable {A : Ar} {top : Nd}
theorem rem_sizes {l : List Nd} {k : Nat} (hk : k < l.length) : sizes (l.take k ++ l.drop (k + 1)) + (l[k]).size = sizes l := by
  have h1 := sizes_td l k
  rw [drop_eq hk, sizes] at h1
  rw [sizes_app]; omega
theorem rem_heights (l : List Nd) (k : Nat) : heights (l.take k ++ l.drop (k + 1)) ≤ heights l := by
  rw [heights_app]
  have := heights_take l k
  have := heights_drop l (k + 1)
  omega
theorem rem_orders {l : List Nd} {k : Nat} {x : Int} (h : x ∈ orders (l.take k ++ l.drop (k + 1))) : x ∈ orders l := by
  rw [orders_app] at h
  exact (List.mem_append.1 h).elim orders_take orders_drop
theorem Good.rem {p : Nd} {k : Nat} (g : Good top) (ho : top.order.Nodup) (hk : k < p.kids.length) (hf : Nd.find p.id top = some p) : Good (Nd.with_ p.id (p.kids.take k ++ p.kids.drop (k + 1)) top) := by
  have hgp := g.gp.found hf
  have hd := g.deep hf
  refine g.of_with ho hf (hgp.self fun e => by rw [e] at hk; exact Nat.not_lt_zero _ hk) ((hgp.kids.take _).app (hgp.kids.drop _)) ?_ (fun x hx => g.kids hf (rem_orders hx)) ?_
  · have := rem_heights p.kids k
    omega
  · have := rem_sizes hk
    have := g.sz
    omega
theorem Good.remove (g : Good top) (hA : Abs A top) (i : Int) : Good (Nd.remove top i).1 := by
  rcases hA.rem i with ⟨_, e⟩ | ⟨p, k, hk, _, _, _, _, hf, e, _⟩
  · rw [e]; exact g
  · rw [e]; exact g.rem hA.od hk hf
theorem find_in {i : Int} {n m : Nd} (hf : Nd.find i n = some m) (hg : Ga i n) : m.grp = true := (All.find n m hg hf).self (find_id i n m hf).1
theorem Good.move (g : Good top) (hA : Abs A top) (i p ix : Int) : Good (Nd.move top i p ix).1 := by
  rcases hA.rem i with ⟨h0, _⟩ | ⟨y, k, hk, h0, hid, hfi, hw, hf, e, o1, o2, o3⟩
  · rw [Nd.move, if_pos h0]; exact g
  have g1 := g.rem hA.od hk hf
  have hsz := size_with (y.kids.take k ++ y.kids.drop (k + 1)) top y hf hA.od
  have hrs := rem_sizes hk
  have hgn : Gp y.kids[k] := g.gp.found hfi
  rw [Nd.move, e]
  simp only [ne_eq, not_true_eq_false, if_false]
  split
  · exact g
  · rename_i m hm
    split
    · exact g
    · rename_i hg
      split
      · exact g
      · split
        · exact g
        · split
          · exact g
          · rename_i hd
            have hga : Ga p (Nd.with_ y.id (y.kids.take k ++ y.kids.drop (k + 1)) top) := by
              have := Ga.remove (Ga.of top hA.od fun m' hm' => by rw [hm] at hm'; cases hm'; simpa using hg) (j := p) i
              rw [e] at this; exact this
            generalize Nd.with_ y.id (y.kids.take k ++ y.kids.drop (k + 1)) top = t1 at *
            cases hf1 : Nd.find p t1 with
            | none =>
              have hn : p ∉ t1.order := fun hmm => by
                have := (find_some p t1).2 hmm
                rw [hf1] at this; cases this
              rw [with_none p _ t1 hn]; exact g1
            | some q =>
              rw [Option.getD_some]
              have hd1 := g1.deep hf1
              have hgq := (g1.gp.found hf1).kids
              refine g1.of_with o1 hf1 (find_in hf1 hga) ((hgq.take _).app (by rw [Alls]; exact ⟨hgn, hgq.drop _⟩)) ?_ (fun x hx => ?_) ?_
              · rw [heights_app, heights]
                have := heights_take q.kids ix.toNat
                have := heights_drop q.kids ix.toNat
                omega
              · rw [orders_app, orders] at hx
                rcases List.mem_append.1 hx with h | h
                · exact g1.kids hf1 (orders_take h)
                · rcases List.mem_append.1 h with h | h
                  · exact g.ids x (find_order hfi h)
                  · exact g1.kids hf1 (orders_drop h)
              · rw [sizes_app, sizes]
                have := sizes_td q.kids ix.toNat
                have := g.sz
                omega
theorem Good.wrap (g : Good top) (ho : top.order.Nodup) (i p ix c : Int) : Good (Nd.wrap top i p ix c).1 := by
  rw [Nd.wrap]
  split
  · exact g
  · rename_i m hm
    split
    · exact g
    · rename_i hg
      split
      · exact g
      · rename_i hb
        split
        · exact g
        · rename_i hf
          have hf0 : Nd.fits top (.mk i true []) (Nd.depth p top + 1) = 0 := Decidable.of_not_not hf
          obtain ⟨_, hx, hsz⟩ := fits_ok hf0
          split
          · exact g
          · rename_i hh
            have hd := g.deep hm
            have hmp := (g.gp.found hm).kids
            rw [Nd.height] at hh
            have hz : (Nd.mk i true []).size = 1 := by simp [Nd.size, sizes]
            have hx1 := hx i (by simp [order, orders])
            refine g.of_with ho hm (by simpa using hg) (Alls.app (hmp.take _) (by rw [Alls, All]; exact ⟨⟨fun _ => rfl, (hmp.drop _).take _⟩, hmp.drop _⟩)) ?_ (fun x hxm => ?_) ?_
            · rw [heights_app, heights, Nd.height]
              have := heights_take m.kids ix.toNat
              have := heights_drop m.kids (ix.toNat + c.toNat)
              omega
            · rw [orders_app, orders, order] at hxm
              rcases List.mem_append.1 hxm with h | h
              · exact g.kids hm (orders_take h)
              · rcases List.mem_append.1 h with h | h
                · rcases List.mem_cons.1 h with h | h
                  · subst h; exact .inr hx1.2
                  · exact g.kids hm (orders_drop (orders_take h))
                · exact g.kids hm (orders_drop h)
            · rw [sizes_app, sizes, Nd.size]
              have h1 := sizes_td m.kids ix.toNat
              have h2 := sizes_td (m.kids.drop ix.toNat) c.toNat
              rw [List.drop_drop] at h2
              omega
theorem Good.unwrap (g : Good top) (hA : Abs A top) (i : Int) : Good (Nd.unwrap top i).1 := by
  rcases hA.rem i with ⟨h0, _⟩ | ⟨y, k, hk, h0, hid, hfi, hw, hf, e, _⟩
  · rw [Nd.unwrap, if_pos h0]; exact g
  rw [Nd.unwrap, e]
  simp only [ne_eq, not_true_eq_false, if_false]
  split
  · exact g
  · rename_i hg
    have hd := g.deep hf
    have hgp := g.gp.found hf
    have hgn := g.gp.found hfi
    have hle : (y.kids[k]).height ≤ heights y.kids := by
      have := heights_drop y.kids k
      rw [drop_eq hk, heights] at this
      omega
    have hhe := height_eq y.kids[k]
    rw [hf, Option.getD_some, Int.toNat_natCast]
    refine g.of_with hA.od hf (hgp.self fun e => by rw [e] at hk; exact Nat.not_lt_zero _ hk) ((hgp.kids.take _).app (hgn.kids.app (hgp.kids.drop _))) ?_ (fun x hx => ?_) ?_
    · rw [heights_app, heights_app]
      have := heights_take y.kids k
      have := heights_drop y.kids (k + 1)
      omega
    · rw [orders_app, orders_app] at hx
      rcases List.mem_append.1 hx with h | h
      · exact g.kids hf (orders_take h)
      · rcases List.mem_append.1 h with h | h
        · exact g.ids x (find_order hfi (orders_kids h))
        · exact g.kids hf (orders_drop h)
    · rw [sizes_app, sizes_app]
      have h1 := rem_sizes hk
      rw [sizes_app] at h1
      have h2 : (y.kids[k]).size = 1 + sizes (y.kids[k]).kids := by generalize y.kids[k] = n; cases n; rfl
      have := g.sz
      omega
theorem Good.step {top' : Nd} (g : Good top) (hA : Abs A top) (h : Step1 top top') : Good top' := by
  rcases h with rfl | ⟨p, ix, n, rfl⟩ | ⟨i, rfl⟩ | ⟨i, p, ix, rfl⟩ | ⟨i, p, ix, c, rfl⟩ | ⟨i, rfl⟩
  · exact g
  · exact g.add hA.od p ix n
  · exact g.remove hA i
  · exact g.move hA i p ix
  · exact g.wrap hA.od i p ix c
  · exact g.unwrap hA i
theorem Rch.good (h : Rch top) : Good top := by
  induction h with
  | start => exact ⟨by rw [Gp, All, Alls]; exact ⟨fun _ => rfl, trivial⟩, by simp [Nd.height, heights], fun x hx => by simp [order, orders] at hx; exact .inl hx, by simp [Nd.size, sizes]⟩
  | step _ hA hs ih => exact ih.step hA hs
end Nd
end Go.Tr

/-
  Tree, plain law: what is undone is as it was.
-/

namespace Go.Tr
open Go.Sl Go.Ls
namespace Nd
theorem ids_ne : ∀ {l : List Nd} {i j : Nat} (hi : i < l.length) (hj : j < l.length), (orders l).Nodup → i < j → (l[i]).id ≠ (l[j]).id := fun {l i j} hi hj ho hij e => by
  rw [← List.take_append_drop j l, orders_app, List.nodup_append] at ho
  refine ho.2.2 (l[i]).id ?_ (l[j]).id ?_ e
  · have hm : l[i] ∈ l.take j := List.mem_take_iff_getElem.2 ⟨i, by omega, rfl⟩
    have hs : (l[i]).id ∈ (l[i]).order := id_mem _
    clear ho e
    generalize l[i] = x at *
    generalize l.take j = m at *
    induction m with
    | nil => cases hm
    | cons y m ih =>
      rw [orders]
      rcases List.mem_cons.1 hm with rfl | hm
      · exact List.mem_append_left _ hs
      · exact List.mem_append_right _ (ih hm)
  · rw [drop_eq hj, orders]
    exact List.mem_append_left _ (id_mem _)
end Nd
section
variable {B : Ar} {t : Nd}
/-- A kid, found by its ID, and where it is. -/
theorem Abs.kid (h : Abs B t) {p : Int} {P : Nd} (hf : Nd.find p t = some P) {k : Nat} (hk : k < P.kids.length) : Nd.whr (P.kids[k]).id t = some (p, (k : Int)) ∧ Nd.find (P.kids[k]).id t = some P.kids[k] ∧ (P.kids[k]).id ≠ 0 := by
  obtain ⟨hpid, hpm⟩ := Nd.find_id p t P hf
  rcases h.cases p with ⟨_, hx⟩ | ⟨q, _, hq, hid, _⟩
  · exact absurd hpm hx
  obtain ⟨qp, np, R, RO, f⟩ := h.foc hq
  have hnp : np = P := by
    have h1 := f.find
    rw [← f.id, hid, hf] at h1
    exact (Option.some.inj h1).symm
  subst hnp
  obtain ⟨hql, _, _, _, hks⟩ := f.tr.ex
  have hkk : k < (B.cells[q]).kids.length := by rw [hks.len]; exact hk
  obtain ⟨c, hc, htc⟩ := hks.get k hkk hk
  have hcm : c ∈ post B 0 t := by
    obtain ⟨c', e, hc', _⟩ := h.tr.kid_in hq hql (List.getElem_mem hkk)
    rw [hc] at e
    have : c = c' := by omega
    rw [this]; exact hc'
  have hc0 : c ≠ 0 := fun e => by
    subst e
    obtain ⟨_, _, _, h3, _⟩ := htc.ex
    obtain ⟨_, _, _, h4, _⟩ := h.tr.ex
    omega
  obtain ⟨y, k', yp, ny, n', R', RO', hk', hl, f', hkn', htc', hidn, hfi, hw, hfy, _⟩ := h.node hcm hc0
  obtain ⟨_, hyl, hpar, _, _⟩ := hl
  have hyq : y = q := by
    obtain ⟨_, _, _, h3, _⟩ := htc.ex
    omega
  subst hyq
  have e1 := f'.tr.uniq f.tr
  subst e1
  have e2 := htc'.uniq htc
  rw [htc.idAt] at hw hfi
  have ho : (Nd.orders ny.kids).Nodup := by
    have := (List.nodup_append.1 (f.order.nodup_iff.1 h.od)).1
    rw [Nd.order_eq, List.nodup_cons] at this
    exact this.2
  have hkk' : k' = k := by
    rcases Nat.lt_trichotomy k' k with hlt | he | hlt
    · exact absurd (by rw [hkn', e2]) (Nd.ids_ne hk' hk ho hlt)
    · exact he
    · exact absurd (by rw [hkn', e2]) (Nd.ids_ne hk hk' ho hlt)
  subst hkk'
  refine ⟨by rw [hw, hpid], by rw [hfi, e2], fun e => hc0 ((h.ne0 hcm).1 (by rw [htc.idAt]; exact e))⟩
end
theorem ins_take {α : Type} {l : List α} {k : Nat} (m : List α) (hk : k ≤ l.length) : (l.take k ++ m).take k = l.take k := by
  rw [List.take_append_of_le_length (by rw [List.length_take]; omega), List.take_take, Nat.min_self]
theorem ins_drop {α : Type} {l : List α} {k : Nat} (m : List α) (j : Nat) (hk : k ≤ l.length) : (l.take k ++ m).drop (k + j) = m.drop j := by
  rw [List.drop_append, List.drop_of_length_le (by rw [List.length_take]; omega), List.nil_append, List.length_take, Nat.min_eq_left hk]
  congr 1; omega
theorem ins_get {α : Type} {l : List α} {k : Nat} {x : α} {m : List α} (hk : k ≤ l.length) (h : k < (l.take k ++ x :: m).length) : (l.take k ++ x :: m)[k] = x := by
  have := List.getElem?_eq_getElem h
  rw [List.getElem?_append_right (by rw [List.length_take]; omega), List.length_take, Nat.min_eq_left hk, Nat.sub_self] at this
  exact (Option.some.inj this).symm
section
variable {A B : Ar} {top t1 : Nd}
/-- What is added and removed. -/
theorem Abs.undoAdd (hA : Abs A top) (hB : Abs B t1) {p ix : Int} {n : Nd} (h : Nd.add top p ix n = (t1, 0)) : Nd.remove t1 n.id = (top, n, p, ix, 0) := by
  rw [Nd.add] at h
  cases hm : Nd.find p top with
  | none => rw [hm] at h; injection h with _ h; cases h
  | some m =>
    rw [hm] at h
    simp only at h
    by_cases hg : m.grp = false
    · rw [if_pos hg] at h; injection h with _ h; cases h
    rw [if_neg hg] at h
    by_cases hx : ix < 0 ∨ (m.kids.length : Int) < ix
    · rw [if_pos hx] at h; injection h with _ h; cases h
    rw [if_neg hx] at h
    by_cases hf : Nd.fits top n (Nd.depth p top + 1) ≠ 0
    · rw [if_pos hf] at h; injection h with _ h; exact absurd h hf
    rw [if_neg hf] at h
    injection h with h _
    obtain ⟨j, rfl⟩ := Int.eq_ofNat_of_zero_le (by omega : 0 ≤ ix)
    rw [Int.toNat_natCast] at h
    have hj : j ≤ m.kids.length := by omega
    have hp1 := Nd.find_with (m.kids.take j ++ n :: m.kids.drop j) top m hm
    rw [h] at hp1
    have hjl : j < (Nd.mk p m.grp (m.kids.take j ++ n :: m.kids.drop j)).kids.length := by
      show j < (m.kids.take j ++ n :: m.kids.drop j).length
      rw [List.length_append, List.length_take, List.length_cons]; omega
    have hn : (Nd.mk p m.grp (m.kids.take j ++ n :: m.kids.drop j)).kids[j] = n := ins_get hj hjl
    obtain ⟨h1, h2, h3⟩ := hB.kid hp1 hjl
    rw [hn] at h1 h2 h3
    rw [Nd.remove, if_neg h3, h2]
    simp only [h1, hp1]
    rw [Int.toNat_natCast]
    have e : (m.kids.take j ++ n :: m.kids.drop j).take j ++ (m.kids.take j ++ n :: m.kids.drop j).drop (j + 1) = m.kids := by
      rw [ins_take _ hj, ins_drop _ 1 hj, List.drop_succ_cons, List.drop_zero, List.take_append_drop]
    show (Nd.with_ p ((m.kids.take j ++ n :: m.kids.drop j).take j ++ (m.kids.take j ++ n :: m.kids.drop j).drop (j + 1)) t1, _) = _
    rw [e, ← h, Nd.with_with, Nd.with_self top m hA.od hm]
end
theorem cut_ins {l : List Nd} {k : Nat} (hk : k < l.length) : (l.take k ++ l.drop (k + 1)).take k ++ l[k] :: (l.take k ++ l.drop (k + 1)).drop k = l := by
  have h2 := ins_drop (l := l) (k := k) (l.drop (k + 1)) 0 (by omega)
  rw [Nat.add_zero, List.drop_zero] at h2
  rw [ins_take _ (by omega), h2, ← drop_eq hk, List.take_append_drop]
section
variable {A B : Ar} {top t1 : Nd}
theorem zero_with (hA : Abs A top) (q : Int) (ks : List Nd) : (0 : Int) ∈ (Nd.with_ q ks top).order := by
  have h0 := hA.id0
  cases top with
  | mk j g k0 =>
    rw [Nd.with_, Nd.order]
    show (0 : Int) ∈ j :: _
    rw [show j = 0 from h0]
    exact List.mem_cons_self ..
/-- What is taken out may come in again. -/
theorem Abs.fitsBack (hA : Abs A top) (g : Nd.Good top) {p : Nd} {k : Nat} (hk : k < p.kids.length) (hf : Nd.find p.id top = some p) (hfi : ∃ i, Nd.find i top = some p.kids[k])
    (o2 : (p.kids[k]).order.Nodup) (o3 : ∀ x ∈ (Nd.with_ p.id (p.kids.take k ++ p.kids.drop (k + 1)) top).order, x ∉ (p.kids[k]).order) :
    Nd.fits (Nd.with_ p.id (p.kids.take k ++ p.kids.drop (k + 1)) top) p.kids[k] (Nd.depth p.id (Nd.with_ p.id (p.kids.take k ++ p.kids.drop (k + 1)) top) + 1) = 0 ∧
    Nd.depth p.id (Nd.with_ p.id (p.kids.take k ++ p.kids.drop (k + 1)) top) + (p.kids[k]).height ≤ 64 := by
  obtain ⟨i, hfi⟩ := hfi
  have hd := g.deep hf
  have hle : (p.kids[k]).height ≤ Nd.heights p.kids := by
    have := Nd.heights_drop p.kids k
    rw [drop_eq hk, Nd.heights] at this
    omega
  rw [Nd.depth_with]
  refine ⟨Nd.fits_zero ?_ (fun x hx => ?_) o2 (g.gp.found hfi) (by omega), by omega⟩
  · have h1 := Nd.size_with (p.kids.take k ++ p.kids.drop (k + 1)) top p hf hA.od
    have h2 := Nd.rem_sizes hk
    have := g.sz
    omega
  · have hn : x ∉ (Nd.with_ p.id (p.kids.take k ++ p.kids.drop (k + 1)) top).order := fun h => o3 x h hx
    rcases g.ids x (Nd.find_order hfi hx) with h | h
    · subst h; exact absurd (zero_with hA _ _) hn
    · exact ⟨h.1, h.2, hn⟩
/-- What is removed and added. -/
theorem Abs.undoRemove (hA : Abs A top) (g : Nd.Good top) {i q k : Int} {n : Nd} (h : Nd.remove top i = (t1, n, q, k, 0)) : Nd.add t1 q k n = (top, 0) := by
  rcases hA.rem i with ⟨h0, _⟩ | ⟨p, j, hk, h0, hid, hfi, hw, hf, e, o1, o2, o3⟩
  · rw [h] at h0; exact absurd rfl h0
  rw [e] at h
  obtain ⟨h1, h2, h3, h4, _⟩ : Nd.with_ p.id (p.kids.take j ++ p.kids.drop (j + 1)) top = t1 ∧ p.kids[j] = n ∧ p.id = q ∧ (j : Int) = k ∧ True := by
    injection h with h1 h; injection h with h2 h; injection h with h3 h; injection h with h4 h
    exact ⟨h1, h2, h3, h4, trivial⟩
  obtain ⟨f0, _⟩ := hA.fitsBack g hk hf ⟨i, hfi⟩ o2 o3
  have hp1 := Nd.find_with (p.kids.take j ++ p.kids.drop (j + 1)) top p hf
  have hpg : p.grp = true := (g.gp.found hf).self fun e => by rw [e] at hk; exact Nat.not_lt_zero _ hk
  subst h1 h2 h3 h4
  rw [Nd.add, hp1]
  have hl : (p.kids.take j ++ p.kids.drop (j + 1)).length = p.kids.length - 1 := by
    rw [List.length_append, List.length_take, List.length_drop]; omega
  show (if p.grp = false then _ else if (j : Int) < 0 ∨ ((p.kids.take j ++ p.kids.drop (j + 1)).length : Int) < j then _ else _) = _
  rw [if_neg (by rw [hpg]; decide), if_neg (by rw [hl]; omega), if_neg (by rw [f0]; decide), Int.toNat_natCast]
  show (Nd.with_ p.id ((p.kids.take j ++ p.kids.drop (j + 1)).take j ++ p.kids[j] :: (p.kids.take j ++ p.kids.drop (j + 1)).drop j) (Nd.with_ p.id (p.kids.take j ++ p.kids.drop (j + 1)) top), 0) = _
  rw [cut_ins hk, Nd.with_with, Nd.with_self top p hA.od hf]
end
section
variable {A B : Ar} {top t1 : Nd}
/-- Who is there is there yet, or was taken out. -/
theorem Abs.remIff (h : Abs A top) {i : Int} {p : Nd} {k : Nat} {hk : k < p.kids.length} (h0 : i ≠ 0) (hw : Nd.whr i top = some (p.id, (k : Int))) (hf : Nd.find p.id top = some p) (hid : (p.kids[k]).id = i) (x : Int) :
    x ∈ top.order ↔ x ∈ (Nd.with_ p.id (p.kids.take k ++ p.kids.drop (k + 1)) top).order ∨ x ∈ (p.kids[k]).order := by
  obtain ⟨_, hm⟩ := Nd.find_id i top _ (by have := (h.kid hf hk).2.1; rw [hid] at this; exact this)
  rcases h.cases i with ⟨_, hx⟩ | ⟨q, _, hq, hidq, _⟩
  · exact absurd hm hx
  have hq0 : q ≠ 0 := fun e => h0 (by rw [← hidq]; exact (h.ne0 hq).2 e)
  obtain ⟨y, k', yp, ny, n', R, RO, hk', hl, f, hkn, ht, hidn, hfi, hw', hfy, hrem⟩ := h.node hq hq0
  have hcut := (h.cut hl f hk' hkn ht (.slice none 0 0)).2
  rw [hidq, hw] at hw'
  injection hw' with hw'
  injection hw' with e1 e2
  have e3 : ny = p := by
    rw [← e1, hf] at hfy
    exact (Option.some.inj hfy).symm
  subst e3
  have e4 : k' = k := by omega
  subst e4
  subst hkn
  rw [← hcut.order.mem_iff, List.mem_append]
/-- What is moved and moved back. -/
theorem Abs.undoMove (hA : Abs A top) (g : Nd.Good top) (hB : Abs B t1) {i pa ix q k : Int} (h : Nd.move top i pa ix = (t1, 0)) (hwq : Nd.whr i top = some (q, k)) : Nd.move t1 i q k = (top, 0) := by
  rcases hA.rem i with ⟨h0, _⟩ | ⟨p, j, hk, h0, hid, hfi, hw, hf, e, o1, o2, o3⟩
  · rw [Nd.move, if_pos h0] at h
    injection h with _ h; exact absurd h h0
  rw [hwq] at hw
  injection hw with hw
  injection hw with e1 e2
  subst e1 e2
  obtain ⟨_, hd64⟩ := hA.fitsBack g hk hf ⟨i, hfi⟩ o2 o3
  have hiff := hA.remIff (hk := hk) h0 (by rw [hwq]) hf hid
  have hp1 := Nd.find_with (p.kids.take j ++ p.kids.drop (j + 1)) top p hf
  have hpg : p.grp = true := (g.gp.found hf).self fun e => by rw [e] at hk; exact Nat.not_lt_zero _ hk
  have hgap : Nd.Ga p.id top := Nd.Ga.of top hA.od fun m hm => by rw [hf] at hm; cases hm; exact hpg
  have hgaR : Nd.Ga p.id (Nd.with_ p.id (p.kids.take j ++ p.kids.drop (j + 1)) top) := by
    have := Nd.Ga.remove hgap i
    rw [e] at this; exact this
  have hgn : Nd.Ga p.id p.kids[j] := hgap.found hfi
  have hback : Nd.with_ p.id ((p.kids.take j ++ p.kids.drop (j + 1)).take j ++ p.kids[j] :: (p.kids.take j ++ p.kids.drop (j + 1)).drop j) (Nd.with_ p.id (p.kids.take j ++ p.kids.drop (j + 1)) top) = top := by
    rw [cut_ins hk, Nd.with_with, Nd.with_self top p hA.od hf]
  rw [Nd.move, e] at h
  simp only [ne_eq, not_true_eq_false, if_false] at h
  generalize Nd.with_ p.id (p.kids.take j ++ p.kids.drop (j + 1)) top = tR at *
  generalize hn : p.kids[j] = n at *
  cases hm : Nd.find pa top with
  | none => rw [hm] at h; injection h with _ h; cases h
  | some m =>
    rw [hm] at h
    simp only at h
    by_cases hg : m.grp = false
    · rw [if_pos hg] at h; injection h with _ h; cases h
    rw [if_neg hg] at h
    by_cases hin : (Nd.find pa n).isSome = true
    · rw [if_pos hin] at h; injection h with _ h; cases h
    rw [if_neg hin] at h
    by_cases hx : ix < 0 ∨ ((((Nd.find pa tR).getD Nd.zero).kids.length : Nat) : Int) < ix
    · rw [if_pos hx] at h; injection h with _ h; cases h
    rw [if_neg hx] at h
    by_cases hd : 64 < Nd.depth pa tR + (n.height : Int)
    · rw [if_pos hd] at h; injection h with _ h; cases h
    rw [if_neg hd] at h
    injection h with h _
    have hpaR : pa ∈ tR.order := ((hiff pa).1 (Nd.find_id pa top m hm).2).resolve_right fun hh => hin ((Nd.find_some pa n).2 hh)
    cases hQ : Nd.find pa tR with
    | none =>
      have := (Nd.find_some pa tR).2 hpaR
      rw [hQ] at this; cases this
    | some Q =>
      rw [hQ, Option.getD_some] at h hx
      obtain ⟨x, rfl⟩ := Int.eq_ofNat_of_zero_le (by omega : 0 ≤ ix)
      rw [Int.toNat_natCast] at h
      have hxl : x ≤ Q.kids.length := by omega
      have hp2 := Nd.find_with (Q.kids.take x ++ n :: Q.kids.drop x) tR Q hQ
      rw [h] at hp2
      have hjl : x < (Nd.mk pa Q.grp (Q.kids.take x ++ n :: Q.kids.drop x)).kids.length := by
        show x < (Q.kids.take x ++ n :: Q.kids.drop x).length
        rw [List.length_append, List.length_take, List.length_cons]; omega
      have hgn2 : (Nd.mk pa Q.grp (Q.kids.take x ++ n :: Q.kids.drop x)).kids[x] = n := ins_get hxl hjl
      obtain ⟨h1, h2, h3⟩ := hB.kid hp2 hjl
      rw [hgn2, hid] at h1 h2 h3
      have er : (Q.kids.take x ++ n :: Q.kids.drop x).take x ++ (Q.kids.take x ++ n :: Q.kids.drop x).drop (x + 1) = Q.kids := by
        rw [ins_take _ hxl, ins_drop _ 1 hxl, List.drop_succ_cons, List.drop_zero, List.take_append_drop]
      have hrem : Nd.remove t1 i = (tR, n, pa, (x : Int), 0) := by
        rw [Nd.remove, if_neg h3, h2]
        simp only [h1, hp2]
        rw [Int.toNat_natCast]
        show (Nd.with_ pa ((Q.kids.take x ++ n :: Q.kids.drop x).take x ++ (Q.kids.take x ++ n :: Q.kids.drop x).drop (x + 1)) t1, _) = _
        rw [er, ← h, Nd.with_with, Nd.with_self tR Q o1 hQ]
      have hqR : p.id ∈ tR.order := (Nd.find_id p.id tR _ hp1).2
      have hq1 : p.id ∈ t1.order := by
        have := Nd.order_with (q := pa) (x := p.id) Q.kids t1 (by
          rw [← h, Nd.with_with, Nd.with_self tR Q o1 hQ]; exact hqR)
        rcases this with hh | hh
        · exact hh
        · refine Nd.find_order hp2 (Nd.orders_kids ?_)
          show p.id ∈ Nd.orders (Q.kids.take x ++ n :: Q.kids.drop x)
          rw [← List.take_append_drop x Q.kids, Nd.orders_app] at hh
          rw [Nd.orders_app, Nd.orders]
          rcases List.mem_append.1 hh with hh | hh
          · exact List.mem_append_left _ hh
          · exact List.mem_append_right _ (List.mem_append_right _ hh)
      have hga1 : Nd.Ga p.id t1 := by
        rw [← h]
        have := (hgaR.found hQ).kids
        exact hgaR.with_ ((this.take x).app (by rw [Nd.Alls]; exact ⟨hgn, this.drop x⟩))
      rw [Nd.move, hrem]
      simp only [ne_eq, not_true_eq_false, if_false]
      cases hm1 : Nd.find p.id t1 with
      | none =>
        have := (Nd.find_some p.id t1).2 hq1
        rw [hm1] at this; cases this
      | some m1 =>
        have hnn : ¬ (Nd.find p.id n).isSome = true := fun hh => o3 p.id hqR ((Nd.find_some p.id n).1 hh)
        have hl : (p.kids.take j ++ p.kids.drop (j + 1)).length = p.kids.length - 1 := by
          rw [List.length_append, List.length_take, List.length_drop]; omega
        simp only
        rw [if_neg (by rw [Nd.find_in hm1 hga1]; decide), if_neg hnn, hp1, Option.getD_some, if_neg (by show ¬ ((j : Int) < 0 ∨ ((p.kids.take j ++ p.kids.drop (j + 1)).length : Int) < j); rw [hl]; omega), if_neg (by omega), Int.toNat_natCast]
        exact Prod.ext hback rfl
end
section
variable {A B : Ar} {top t1 : Nd}
/-- What is wrapped and unwrapped. -/
theorem Abs.undoWrap (hA : Abs A top) (hB : Abs B t1) {i p ix c : Int} (h : Nd.wrap top i p ix c = (t1, 0)) : Nd.unwrap t1 i = (top, p, ix, c, 0) := by
  rw [Nd.wrap] at h
  cases hm : Nd.find p top with
  | none => rw [hm] at h; injection h with _ h; cases h
  | some m =>
    rw [hm] at h
    simp only at h
    by_cases hg : m.grp = false
    · rw [if_pos hg] at h; injection h with _ h; cases h
    rw [if_neg hg] at h
    by_cases hx : ix < 0 ∨ c < 0 ∨ (m.kids.length : Int) < ix ∨ (m.kids.length : Int) - ix < c
    · rw [if_pos hx] at h; injection h with _ h; cases h
    rw [if_neg hx] at h
    by_cases hf : Nd.fits top (.mk i true []) (Nd.depth p top + 1) ≠ 0
    · rw [if_pos hf] at h; injection h with _ h; exact absurd h hf
    rw [if_neg hf] at h
    by_cases hh : 64 < Nd.depth p top + 1 + ((Nd.mk i true ((m.kids.drop ix.toNat).take c.toNat)).height : Int) - 1
    · rw [if_pos hh] at h; injection h with _ h; cases h
    rw [if_neg hh] at h
    injection h with h _
    obtain ⟨j, rfl⟩ := Int.eq_ofNat_of_zero_le (by omega : 0 ≤ ix)
    obtain ⟨d, rfl⟩ := Int.eq_ofNat_of_zero_le (by omega : 0 ≤ c)
    rw [Int.toNat_natCast, Int.toNat_natCast] at h
    have hj : j ≤ m.kids.length := by omega
    have hp1 := Nd.find_with (m.kids.take j ++ Nd.mk i true ((m.kids.drop j).take d) :: m.kids.drop (j + d)) top m hm
    rw [h] at hp1
    have hjl : j < (Nd.mk p m.grp (m.kids.take j ++ Nd.mk i true ((m.kids.drop j).take d) :: m.kids.drop (j + d))).kids.length := by
      show j < (m.kids.take j ++ Nd.mk i true ((m.kids.drop j).take d) :: m.kids.drop (j + d)).length
      rw [List.length_append, List.length_take, List.length_cons]; omega
    have hn : (Nd.mk p m.grp (m.kids.take j ++ Nd.mk i true ((m.kids.drop j).take d) :: m.kids.drop (j + d))).kids[j] = Nd.mk i true ((m.kids.drop j).take d) := ins_get hj hjl
    obtain ⟨h1, h2, h3⟩ := hB.kid hp1 hjl
    rw [hn] at h1 h2 h3
    have hrem : Nd.remove t1 i = (Nd.with_ p ((m.kids.take j ++ Nd.mk i true ((m.kids.drop j).take d) :: m.kids.drop (j + d)).take j ++ (m.kids.take j ++ Nd.mk i true ((m.kids.drop j).take d) :: m.kids.drop (j + d)).drop (j + 1)) t1, Nd.mk i true ((m.kids.drop j).take d), p, (j : Int), 0) := by
      have h1' : Nd.whr i t1 = some (p, (j : Int)) := h1
      have h2' : Nd.find i t1 = some (Nd.mk i true ((m.kids.drop j).take d)) := h2
      have h3' : i ≠ 0 := h3
      rw [Nd.remove, if_neg h3', h2']
      simp only [h1', hp1]
      rw [Int.toNat_natCast]
      rfl
    have e : (m.kids.take j ++ Nd.mk i true ((m.kids.drop j).take d) :: m.kids.drop (j + d)).take j ++ (((m.kids.drop j).take d) ++ (m.kids.take j ++ Nd.mk i true ((m.kids.drop j).take d) :: m.kids.drop (j + d)).drop (j + 1)) = m.kids := by
      rw [ins_take _ hj, ins_drop _ 1 hj, List.drop_succ_cons, List.drop_zero, ← List.drop_drop, List.take_append_drop, List.take_append_drop]
    rw [Nd.unwrap, hrem]
    simp only [ne_eq, not_true_eq_false, if_false]
    rw [if_neg (show ¬ ((Nd.mk i true ((m.kids.drop j).take d)).grp = false) from fun hh => by cases hh), hp1, Option.getD_some, Int.toNat_natCast]
    have hlen : (((m.kids.drop j).take d).length : Int) = (d : Int) := by
      rw [List.length_take, List.length_drop]; omega
    show (Nd.with_ p ((m.kids.take j ++ Nd.mk i true ((m.kids.drop j).take d) :: m.kids.drop (j + d)).take j ++ (((m.kids.drop j).take d) ++ (m.kids.take j ++ Nd.mk i true ((m.kids.drop j).take d) :: m.kids.drop (j + d)).drop (j + 1))) t1, p, (j : Int), (((m.kids.drop j).take d).length : Int), (0 : Int)) = _
    rw [e, hlen, ← h, Nd.with_with, Nd.with_self top m hA.od hm]
end
section
variable {A B : Ar} {top t1 : Nd}
/-- What is unwrapped and wrapped. -/
theorem Abs.undoUnwrap (hA : Abs A top) (g : Nd.Good top) {i q k c : Int} (h : Nd.unwrap top i = (t1, q, k, c, 0)) : Nd.wrap t1 i q k c = (top, 0) := by
  rcases hA.rem i with ⟨h0, _⟩ | ⟨p, j, hk, h0, hid, hfi, hw, hf, e, o1, o2, o3⟩
  · rw [Nd.unwrap, if_pos h0] at h
    injection h with _ h; injection h with _ h; injection h with _ h; injection h with _ h
    exact absurd h h0
  obtain ⟨f0, hd64⟩ := hA.fitsBack g hk hf ⟨i, hfi⟩ o2 o3
  rw [Nd.unwrap, e] at h
  simp only [ne_eq, not_true_eq_false, if_false] at h
  by_cases hg : (p.kids[j]).grp = false
  · rw [if_pos hg] at h
    injection h with _ h; injection h with _ h; injection h with _ h; injection h with _ h
    cases h
  rw [if_neg hg, hf, Option.getD_some, Int.toNat_natCast] at h
  have hgt : (p.kids[j]).grp = true := by simpa using hg
  obtain ⟨h1, h2, h3, h4⟩ : Nd.with_ p.id (p.kids.take j ++ ((p.kids[j]).kids ++ p.kids.drop (j + 1))) top = t1 ∧ p.id = q ∧ (j : Int) = k ∧ ((p.kids[j]).kids.length : Int) = c := by
    injection h with h1 h; injection h with h2 h; injection h with h3 h; injection h with h4 h
    exact ⟨h1, h2, h3, h4⟩
  have hpg : p.grp = true := (g.gp.found hf).self fun e => by rw [e] at hk; exact Nat.not_lt_zero _ hk
  have hp1 := Nd.find_with (p.kids.take j ++ ((p.kids[j]).kids ++ p.kids.drop (j + 1))) top p hf
  have hdep := Nd.depth_with (q := p.id) (p.kids.take j ++ ((p.kids[j]).kids ++ p.kids.drop (j + 1))) top
  have hdep0 := Nd.depth_with (q := p.id) (p.kids.take j ++ p.kids.drop (j + 1)) top
  rw [hdep0] at hd64
  have hsz := Nd.size_with (p.kids.take j ++ ((p.kids[j]).kids ++ p.kids.drop (j + 1))) top p hf hA.od
  have hrs := Nd.rem_sizes hk
  rw [Nd.sizes_app] at hrs
  rw [Nd.sizes_app, Nd.sizes_app] at hsz
  have hns : (p.kids[j]).size = 1 + Nd.sizes (p.kids[j]).kids := by generalize p.kids[j] = n; cases n; rfl
  have hnk : Nd.mk i true (p.kids[j]).kids = p.kids[j] := by
    rw [← hid, ← hgt]; exact Nd.eta _
  have hx0 : ∀ x ∈ (Nd.with_ p.id (p.kids.take j ++ p.kids.drop (j + 1)) top).order, x ∉ (p.kids[j]).order := o3
  have hno : (p.kids[j]).order = i :: Nd.orders (p.kids[j]).kids := by rw [Nd.order_eq, hid]
  have hi1 : i ∉ (Nd.with_ p.id (p.kids.take j ++ ((p.kids[j]).kids ++ p.kids.drop (j + 1))) top).order := fun hm => by
    rw [hno, List.nodup_cons] at o2
    have hnot : i ∉ (Nd.with_ p.id (p.kids.take j ++ p.kids.drop (j + 1)) top).order := fun hh => o3 i hh (by rw [hno]; exact List.mem_cons_self ..)
    have hm2 := Nd.order_with (q := p.id) (x := i) (p.kids.take j ++ ((p.kids[j]).kids ++ p.kids.drop (j + 1))) (Nd.with_ p.id (p.kids.take j ++ p.kids.drop (j + 1)) top) (by rw [Nd.with_with]; exact hm)
    rcases hm2 with hh | hh
    · exact hnot hh
    · rw [Nd.orders_app, Nd.orders_app] at hh
      have hpR := Nd.find_with (p.kids.take j ++ p.kids.drop (j + 1)) top p hf
      rcases List.mem_append.1 hh with hh | hh
      · refine hnot (Nd.find_order hpR (Nd.orders_kids ?_))
        show i ∈ Nd.orders (p.kids.take j ++ p.kids.drop (j + 1))
        rw [Nd.orders_app]; exact List.mem_append_left _ hh
      · rcases List.mem_append.1 hh with hh | hh
        · exact o2.1 hh
        · refine hnot (Nd.find_order hpR (Nd.orders_kids ?_))
          show i ∈ Nd.orders (p.kids.take j ++ p.kids.drop (j + 1))
          rw [Nd.orders_app]; exact List.mem_append_right _ hh
  have hir : 1 ≤ i ∧ i ≤ 2147483648 := by
    rcases g.ids i (Nd.find_id i top _ hfi).2 with hz | hz
    · exact absurd hz h0
    · exact hz
  have hhe := Nd.height_eq p.kids[j]
  have hfits : Nd.fits (Nd.with_ p.id (p.kids.take j ++ ((p.kids[j]).kids ++ p.kids.drop (j + 1))) top) (.mk i true []) (Nd.depth p.id (Nd.with_ p.id (p.kids.take j ++ ((p.kids[j]).kids ++ p.kids.drop (j + 1))) top) + 1) = 0 := by
    refine Nd.fits_zero ?_ (fun x hx => ?_) (by simp [Nd.order, Nd.orders]) (by rw [Nd.Gp, Nd.All, Nd.Alls]; exact ⟨fun _ => rfl, trivial⟩) ?_
    · have := g.sz
      rw [show (Nd.mk i true []).size = 1 from by simp [Nd.size, Nd.sizes]]
      omega
    · have : x = i := by simpa [Nd.order, Nd.orders] using hx
      subst this
      exact ⟨hir.1, hir.2, hi1⟩
    · rw [hdep, show (Nd.mk i true []).height = 1 from by simp [Nd.height, Nd.heights]]
      omega
  subst h1 h2 h3 h4
  have hj : j ≤ p.kids.length := by omega
  have d0 : (p.kids.take j ++ ((p.kids[j]).kids ++ p.kids.drop (j + 1))).drop j = (p.kids[j]).kids ++ p.kids.drop (j + 1) := by
    have := ins_drop (l := p.kids) (k := j) ((p.kids[j]).kids ++ p.kids.drop (j + 1)) 0 hj
    rwa [Nat.add_zero, List.drop_zero] at this
  have d1 : ((p.kids.take j ++ ((p.kids[j]).kids ++ p.kids.drop (j + 1))).drop j).take (p.kids[j]).kids.length = (p.kids[j]).kids := by rw [d0, List.take_left']; rfl
  have d2 : (p.kids.take j ++ ((p.kids[j]).kids ++ p.kids.drop (j + 1))).drop (j + (p.kids[j]).kids.length) = p.kids.drop (j + 1) := by rw [ins_drop _ _ hj, List.drop_left']; rfl
  have d3 := ins_take (l := p.kids) (k := j) ((p.kids[j]).kids ++ p.kids.drop (j + 1)) hj
  have hlen : (p.kids.take j ++ ((p.kids[j]).kids ++ p.kids.drop (j + 1))).length = p.kids.length - 1 + (p.kids[j]).kids.length := by
    rw [List.length_append, List.length_append, List.length_take, List.length_drop]; omega
  rw [Nd.wrap, hp1]
  show (if p.grp = false then _ else if (j : Int) < 0 ∨ ((p.kids[j]).kids.length : Int) < 0 ∨ ((p.kids.take j ++ ((p.kids[j]).kids ++ p.kids.drop (j + 1))).length : Int) < j ∨ ((p.kids.take j ++ ((p.kids[j]).kids ++ p.kids.drop (j + 1))).length : Int) - j < ((p.kids[j]).kids.length : Int) then _ else _) = _
  rw [if_neg (by rw [hpg]; decide), if_neg (by rw [hlen]; omega), if_neg (by rw [hfits]; decide), Int.toNat_natCast, Int.toNat_natCast]
  show (if 64 < Nd.depth p.id _ + 1 + ((Nd.mk i true (((p.kids.take j ++ ((p.kids[j]).kids ++ p.kids.drop (j + 1))).drop j).take (p.kids[j]).kids.length)).height : Int) - 1 then _ else (Nd.with_ p.id ((p.kids.take j ++ ((p.kids[j]).kids ++ p.kids.drop (j + 1))).take j ++ Nd.mk i true (((p.kids.take j ++ ((p.kids[j]).kids ++ p.kids.drop (j + 1))).drop j).take (p.kids[j]).kids.length) :: (p.kids.take j ++ ((p.kids[j]).kids ++ p.kids.drop (j + 1))).drop (j + (p.kids[j]).kids.length)) _, (0 : Int))) = _
  rw [d1, d2, d3, hnk, hdep, if_neg (by omega), ← drop_eq hk, List.take_append_drop, Nd.with_with, Nd.with_self top p hA.od hf]
end
end Go.Tr

/-
  Tree: TreeUndo.
-/

namespace Go.Tr
open Go.Sl Go.Ls
namespace Nd
theorem add_err {top n : Nd} {p ix : Int} : (Nd.add top p ix n).2 ≠ 0 → (Nd.add top p ix n).1 = top := by
  rw [Nd.add]
  repeat' split
  all_goals (intro h; first | rfl | exact absurd rfl h)
theorem move_err {top : Nd} {i p ix : Int} : (Nd.move top i p ix).2 ≠ 0 → (Nd.move top i p ix).1 = top := by
  rw [Nd.move]
  repeat' split
  all_goals (intro h; first | rfl | exact absurd rfl h)
theorem wrap_err {top : Nd} {i p ix c : Int} : (Nd.wrap top i p ix c).2 ≠ 0 → (Nd.wrap top i p ix c).1 = top := by
  rw [Nd.wrap]
  repeat' split
  all_goals (intro h; first | rfl | exact absurd rfl h)
theorem unwrap_err {top : Nd} {i : Int} : (Nd.unwrap top i).2.2.2.2 ≠ 0 → (Nd.unwrap top i).1 = top := by
  rw [Nd.unwrap]
  repeat' split
  all_goals (intro h; first | rfl | exact absurd rfl h)
end Nd
theorem Abs.unwrapCnt {A : Ar} {top : Nd} (h : Abs A top) (i : Int) : I64 (Nd.unwrap top i).2.2.2.1 := by
  have h2 := (h.remSize i).2
  have h3 := Nd.len_le_sizes (Nd.remove top i).2.1.kids
  have h4 : (Nd.remove top i).2.1.size = 1 + Nd.sizes (Nd.remove top i).2.1.kids := by generalize (Nd.remove top i).2.1 = n; cases n; rfl
  rw [Nd.unwrap]
  split
  · exact ⟨by show (-9223372036854775808 : Int) ≤ 0; decide, by show (0 : Int) ≤ 9223372036854775807; decide⟩
  · split
    · exact ⟨by show (-9223372036854775808 : Int) ≤ 0; decide, by show (0 : Int) ≤ 9223372036854775807; decide⟩
    · show I64 (((Nd.remove top i).2.1.kids.length : Nat) : Int)
      exact ⟨by omega, by omega⟩
end Go.Tr
namespace Go.Proofs.Ytfdeckdongonnab
open Go.Sl Go.Ls Go.Tr
set_option maxRecDepth 100000
set_option maxHeartbeats 8000000
set_option linter.unusedVariables false
-- PICKB
attribute [local irreducible] WC WL WX WK WA WAK Val Ctr RunRes ResIs Rd At sl box pt Exit.then Exit.inBlock bodyPost Code.wp wpList
theorem tUndo (l : List Opn) (lv : Value) (o : Opn) (ocs : List Value) (I : Mem) (hlv : LsAt Opn.rep I l lv) (ho : Opn.rep I o ocs) :
    Ctr Try.prog 7 [lv, .agg ocs.toArray] I [] (KeepR [] fun v _ => v = .bool true) := by
  obtain ⟨a1, c1, rfl⟩ := hlv.sl
  obtain ⟨nv, rfl, k64, d64, p64, i64, c64, hn⟩ := ho
  obtain ⟨na, nc, rfl⟩ := hn.sl
  have hnle := hn.le
  refine Ctr.intro Try.func7 rfl rfl rfl fun E F => ?_
  refine WC.seq ?_
  refine WC.region ?_
  (refine WL.boxA rfl rfl ?_; intro _)
  refine WL.nApp ?_
  refine WL.val (Val.assignB rfl) rfl ?_
  refine WL.nil ?_
  refine WX.thenC ?_
  refine WC.seq ?_
  refine WC.seq ?_
  refine WC.region ?_
  refine WL.val (Val.moveS rfl) rfl ?_
  rename_i g3
  refine WL.callE rfl rfl (rSmall l _ _ hlv) rfl (fun hs => ?_) (fun hs => ?_)
  case refine_2 =>
    refine WL.val (Val.not rfl) rfl ?_
    refine WL.val (Val.moveB rfl) rfl ?_
    refine WL.gF rfl rfl rfl rfl ?_
    refine WL.gF rfl rfl rfl rfl ?_
    refine WL.gF rfl rfl rfl rfl ?_
    refine WL.gF rfl rfl rfl rfl ?_
    refine WL.val (Val.pickBT rfl rfl) rfl ?_
    refine WL.nil ?_
    refine WX.thenC ?_
    refine WC.condT rfl ?_
    refine WC.seq ?_
    refine WC.region ?_
    refine WL.callP [] rfl rfl (tAwake _) rfl ?_
    rintro _ I2 _ hI2 ⟨rfl, rfl⟩
    refine WL.nApp ?_
    refine WL.val (Val.assignB rfl) rfl ?_
    refine WL.nil ?_
    refine WX.thenC ?_
    refine WC.ret ?_
    refine WX.thenRet ?_
    apply WX.doneP (ks := [])
    case hres => exact RunRes.r1 rfl (ResIs.tmpB rfl)
    case hI => first | exact Mem.le.refl _ | assumption
    exact ⟨rfl, rfl⟩
  by_cases hsm : o.nodes.length ≤ 80
  case neg =>
    refine WL.val (Val.not rfl) rfl ?_
    refine WL.val (Val.moveB rfl) rfl ?_
    refine WL.gT rfl rfl ?_
    refine WL.val (Val.fldAddr rfl) rfl ?_
    refine WL.gT rfl rfl ?_
    refine WL.val (Val.loadS rfl (Rd.own1 1 rfl rfl)) rfl ?_
    refine WL.gT rfl rfl ?_
    refine WL.val (Val.len rfl) rfl ?_
    refine WL.gT rfl rfl ?_
    refine WL.val (Val.gtr rfl rfl (decide_eq_true (by omega))) rfl ?_
    refine WL.val (Val.pickBF rfl rfl) rfl ?_
    refine WL.nil ?_
    refine WX.thenC ?_
    refine WC.condT rfl ?_
    refine WC.seq ?_
    refine WC.region ?_
    refine WL.callP [] rfl rfl (tAwake _) rfl ?_
    rintro _ I2 _ hI2 ⟨rfl, rfl⟩
    refine WL.nApp ?_
    refine WL.val (Val.assignB rfl) rfl ?_
    refine WL.nil ?_
    refine WX.thenC ?_
    refine WC.ret ?_
    refine WX.thenRet ?_
    apply WX.doneP (ks := [])
    case hres => exact RunRes.r1 rfl (ResIs.tmpB rfl)
    case hI => first | exact Mem.le.refl _ | assumption
    exact ⟨rfl, rfl⟩
  refine WL.val (Val.not rfl) rfl ?_
  refine WL.val (Val.moveB rfl) rfl ?_
  refine WL.gT rfl rfl ?_
  refine WL.val (Val.fldAddr rfl) rfl ?_
  refine WL.gT rfl rfl ?_
  refine WL.val (Val.loadS rfl (Rd.own1 1 rfl rfl)) rfl ?_
  refine WL.gT rfl rfl ?_
  refine WL.val (Val.len rfl) rfl ?_
  refine WL.gT rfl rfl ?_
  refine WL.val (Val.gtr rfl rfl (decide_eq_false (by omega))) rfl ?_
  refine WL.val (Val.pickBF rfl rfl) rfl ?_
  refine WL.nil ?_
  refine WX.thenC ?_
  refine WC.condF rfl ?_
  refine WC.skip ?_
  refine WX.thenC ?_
  refine WC.seq ?_
  refine WC.region ?_
  refine WL.val (Val.moveS rfl) rfl ?_
  refine WL.callP [] rfl rfl (tPlay l _ _ hlv hs.2 (by have := hs.1; omega)) rfl ?_
  rintro _ I1 _ hI1 ⟨A, top, kv, rfl, hkv, rfl, hA, hr⟩
  obtain ⟨ka, kc, rfl⟩ := hkv.sl
  have hG := hr.good
  have hsz := hA.size_le
  have hit : I64 top.id := by rw [hA.id0]; exact ⟨by decide, by decide⟩
  refine WL.nApp ?_
  refine WL.val (Val.moveT rfl) rfl ?_
  refine WL.val (Val.extractP rfl rfl) rfl ?_
  refine WL.val (Val.extractA rfl rfl) rfl ?_
  refine WL.val (Val.extractB rfl rfl) rfl ?_
  (refine WL.alloc rfl ?_; intro _)
  refine WL.nApp ?_
  refine WL.val (Val.assignP rfl) rfl ?_
  refine WL.stA 7 rfl rfl rfl rfl ?_
  refine WL.val (Val.assignB rfl) rfl ?_
  refine WL.nil ?_
  refine WX.thenC ?_
  refine WC.seq ?_
  refine WC.seq ?_
  refine WC.region ?_
  refine WL.val (Val.moveB rfl) rfl ?_
  refine WL.val (Val.not rfl) rfl ?_
  refine WL.nil ?_
  refine WX.thenC ?_
  refine WC.condF rfl ?_
  refine WC.skip ?_
  refine WX.thenC ?_
  refine WC.seq ?_
  refine WC.region ?_
  refine WL.val (Val.assignI rfl) rfl ?_
  refine WL.nil ?_
  refine WX.thenC ?_
  refine WC.seq ?_
  refine WC.seq ?_
  refine WC.region ?_
  refine WL.val (Val.fldAddr rfl) rfl ?_
  refine WL.val (Val.loadS rfl (Rd.own1 1 rfl rfl)) rfl ?_
  refine WL.nil ?_
  refine WX.thenC ?_
  refine WC.block ?_
  refine WC.seq ?_
  refine WC.region ?_
  refine WL.val (Val.eql rfl rfl rfl) rfl ?_
  refine WL.val (Val.assignB rfl) rfl ?_
  refine WL.nil ?_
  refine WX.thenC ?_
  rename_i g6
  refine WC.cutB (fun ρ' I' L' => ∃ B : Ar, I1.le I' ∧ Abs B top ∧ ρ' 5 = ptr B.b ∧ ρ' 6 = ptr g6 ∧ L' = F :: box g6 39 [vi top.id, .bool top.grp, .slice ka top.kids.length kc] :: B.hp) ?_ ?_
  · by_cases k1 : o.kind = 1
    · rw [beq_iff_eq.2 k1]
      by_cases hz : o.nodes.length = 0
      · skip
        refine WC.condT rfl ?_
        refine WC.seq ?_
        refine WC.seq ?_
        refine WC.region ?_
        refine WL.val (Val.fldAddr rfl) rfl ?_
        refine WL.val (Val.loadS rfl (Rd.own1 1 rfl rfl)) rfl ?_
        refine WL.val (Val.len rfl) rfl ?_
        refine WL.val (Val.eql rfl rfl (beq_iff_eq.2 (by omega))) rfl ?_
        refine WL.nil ?_
        refine WX.thenC ?_
        refine WC.condT rfl ?_
        refine WC.seq ?_
        refine WC.region ?_
        refine WL.callP [] rfl rfl (tAwake _) rfl ?_
        rintro _ I2 _ hI2 ⟨rfl, rfl⟩
        refine WL.nApp ?_
        have hJ := hI1.trans hI2
        refine WL.val (Val.assignB rfl) rfl ?_
        refine WL.nil ?_
        refine WX.thenC ?_
        refine WC.ret ?_
        refine WX.thenRet ?_
        refine WX.inRet ?_
        refine WX.thenRet ?_
        apply WX.doneP (ks := [])
        case hres => exact RunRes.r1 rfl (ResIs.tmpB rfl)
        case hI => first | exact Mem.le.refl _ | assumption
        exact ⟨rfl, rfl⟩
      refine WC.condT rfl ?_
      refine WC.seq ?_
      refine WC.seq ?_
      refine WC.region ?_
      refine WL.val (Val.fldAddr rfl) rfl ?_
      refine WL.val (Val.loadS rfl (Rd.own1 1 rfl rfl)) rfl ?_
      refine WL.val (Val.len rfl) rfl ?_
      refine WL.val (Val.eql rfl rfl (beq_eq_false_iff_ne.2 (by omega))) rfl ?_
      refine WL.nil ?_
      refine WX.thenC ?_
      refine WC.condF rfl ?_
      refine WC.skip ?_
      refine WX.thenC ?_
      refine WC.seq ?_
      refine WC.region ?_
      refine WL.val (Val.fldAddr rfl) rfl ?_
      refine WL.val (Val.loadS rfl (Rd.own1 1 rfl rfl)) rfl ?_
      refine WL.callP [] rfl rfl (rBuild _ o.nodes (Nat.le_refl _) (by omega) _ 0 _ (by omega) (by decide) (by decide) (hn.mono hI1)) rfl ?_
      rintro _ I2 _ hI2 ⟨rfl, nd, kv2, rfl, hkv2, hnid, hnsz⟩
      obtain ⟨ka2, kc2, rfl⟩ := hkv2.sl
      refine WL.nApp ?_
      refine WL.val (Val.moveT rfl) rfl ?_
      refine WL.val (Val.extractA rfl rfl) rfl ?_
      refine WL.val (Val.extractI rfl rfl) rfl ?_
      (refine WL.alloc rfl ?_; intro _)
      refine WL.nApp ?_
      refine WL.stA 8 rfl rfl rfl rfl ?_
      refine WL.val (Val.assignI rfl) rfl ?_
      refine WL.nil ?_
      refine WX.thenC ?_
      refine WC.seq ?_
      refine WC.region ?_
      refine WL.val (Val.moveP rfl) rfl ?_
      refine WL.val (Val.fldAddr rfl) rfl ?_
      refine WL.val (Val.loadS rfl (Rd.own1 1 rfl rfl)) rfl ?_
      refine WL.val (Val.fldAddr rfl) rfl ?_
      refine WL.val (Val.loadS rfl (Rd.own1 1 rfl rfl)) rfl ?_
      refine WL.val (Val.ldO 8 rfl rfl rfl) rfl ?_
      refine WL.callP [2, 2, 2, 2, 2] rfl rfl (tAdd A top hA nd _ o.parent o.index _ (by omega) hnid hkv2) rfl ?_
      rintro _ I3 _ hI3 ⟨rfl, B, hb, rfl, hB⟩
      rw [← hb]
      refine WL.nApp ?_
      by_cases he : (Nd.add top o.parent o.index nd).2 = 0
      · have hu := hA.undoAdd hB (Prod.ext rfl he)
        refine WL.val (Val.assignI rfl) rfl ?_
        refine WL.nil ?_
        refine WX.thenC ?_
        refine WC.seq ?_
        refine WC.region ?_
        refine WL.val (Val.moveI rfl) rfl ?_
        refine WL.val (Val.eql rfl rfl (beq_iff_eq.2 (by omega))) rfl ?_
        refine WL.nil ?_
        refine WX.thenC ?_
        refine WC.condT rfl ?_
        refine WC.seq ?_
        refine WC.region ?_
        refine WL.val (Val.moveP rfl) rfl ?_
        refine WL.val (Val.fldAddr rfl) rfl ?_
        refine WL.val (Val.loadS rfl (Rd.own1 3 rfl rfl)) rfl ?_
        refine WL.callP [4, 4, 4, 4, 4] rfl rfl (tRemove B _ hB nd.id _) rfl ?_
        rw [hu]
        rintro v I4 _ hI4 ⟨_, C, hv, ⟨kn, rfl, hkn, hin⟩, hc, rfl, hC⟩
        obtain ⟨na2, nc2, rfl⟩ := hkn.sl
        replace hv : v = .tuple #[.agg #[vi nd.id, .bool nd.grp, .slice na2 nd.kids.length nc2], vi o.parent, vi o.index, vi 0] := hv
        subst hv
        rw [← hc]
        refine WL.nApp ?_
        refine WL.val (Val.moveT rfl) rfl ?_
        refine WL.val (Val.extractA rfl rfl) rfl ?_
        refine WL.val (Val.extractI rfl rfl) rfl ?_
        refine WL.val (Val.extractI rfl rfl) rfl ?_
        refine WL.val (Val.extractI rfl rfl) rfl ?_
        (refine WL.alloc rfl ?_; intro _)
        refine WL.nApp ?_
        refine WL.stA 9 rfl rfl rfl rfl ?_
        refine WL.val (Val.assignI rfl) rfl ?_
        refine WL.val (Val.assignI rfl) rfl ?_
        refine WL.val (Val.assignI rfl) rfl ?_
        refine WL.nil ?_
        refine WX.thenC ?_
        refine WC.seq ?_
        refine WC.region ?_
        refine WL.val (Val.moveI rfl) rfl ?_
        refine WL.val (Val.neq rfl rfl (bne_eq_false_iff_eq.2 (by omega))) rfl ?_
        refine WL.val (Val.moveB rfl) rfl ?_
        refine WL.gT rfl rfl ?_
        refine WL.val (Val.ldO 9 rfl rfl rfl) rfl ?_
        refine WL.gT rfl rfl ?_
        refine WL.val (Val.ldO 3 rfl rfl rfl) rfl ?_
        refine WL.gT rfl rfl ?_
        refine WL.callE rfl rfl (tEqual _ nd (Nat.le_refl _) nd _ _ _ (by omega) hin hkn hnid (hkv2.mono (hI3.trans hI4))) rfl (fun h => ?_) (fun h => absurd rfl h)
        refine WL.gT rfl rfl ?_
        refine WL.val (Val.not rfl) rfl ?_
        refine WL.val (Val.pickBF rfl rfl) rfl ?_
        refine WL.val (Val.moveB rfl) rfl ?_
        refine WL.gT rfl rfl ?_
        refine WL.val (Val.moveI rfl) rfl ?_
        refine WL.gT rfl rfl ?_
        refine WL.val (Val.fldAddr rfl) rfl ?_
        refine WL.gT rfl rfl ?_
        refine WL.val (Val.loadS rfl (Rd.own1 1 rfl rfl)) rfl ?_
        refine WL.gT rfl rfl ?_
        refine WL.val (Val.neq rfl rfl (bne_eq_false_iff_eq.2 (by omega))) rfl ?_
        refine WL.val (Val.pickBF rfl rfl) rfl ?_
        refine WL.val (Val.moveB rfl) rfl ?_
        refine WL.gT rfl rfl ?_
        refine WL.val (Val.moveI rfl) rfl ?_
        refine WL.gT rfl rfl ?_
        refine WL.val (Val.fldAddr rfl) rfl ?_
        refine WL.gT rfl rfl ?_
        refine WL.val (Val.loadS rfl (Rd.own1 1 rfl rfl)) rfl ?_
        refine WL.gT rfl rfl ?_
        refine WL.val (Val.neq rfl rfl (bne_eq_false_iff_eq.2 (by omega))) rfl ?_
        refine WL.val (Val.pickBF rfl rfl) rfl ?_
        refine WL.nil ?_
        refine WX.thenC ?_
        refine WC.condF rfl ?_
        refine WC.skip ?_
        refine WX.inNormal ?_
        refine WX.conv (fun w h => h.sub [0, 1, 2, 2, 2, 2, 2] rfl) ?_
        exact WX.thenK (WK.meet ⟨C, hI2.trans (hI3.trans hI4), hC, rfl, rfl, rfl⟩)
      · rw [Nd.add_err he] at hB
        refine WL.val (Val.assignI rfl) rfl ?_
        refine WL.nil ?_
        refine WX.thenC ?_
        refine WC.seq ?_
        refine WC.region ?_
        refine WL.val (Val.moveI rfl) rfl ?_
        refine WL.val (Val.eql rfl rfl (beq_eq_false_iff_ne.2 (by omega))) rfl ?_
        refine WL.nil ?_
        refine WX.thenC ?_
        refine WC.condF rfl ?_
        refine WC.skip ?_
        refine WX.inNormal ?_
        refine WX.conv (fun w h => h.sub [0, 1, 2, 2, 2, 2, 2] rfl) ?_
        exact WX.thenK (WK.meet ⟨B, hI2.trans hI3, hB, rfl, rfl, rfl⟩)
    rw [beq_eq_false_iff_ne.2 k1]
    by_cases k2 : o.kind = 2
    · skip
      refine WC.condF rfl ?_
      refine WC.seq ?_
      refine WC.region ?_
      refine WL.val (Val.eql rfl rfl (beq_iff_eq.2 (by omega))) rfl ?_
      refine WL.val (Val.assignB rfl) rfl ?_
      refine WL.nil ?_
      refine WX.thenC ?_
      refine WC.condT rfl ?_
      refine WC.seq ?_
      refine WC.region ?_
      refine WL.val (Val.moveP rfl) rfl ?_
      refine WL.val (Val.fldAddr rfl) rfl ?_
      refine WL.val (Val.loadS rfl (Rd.own1 1 rfl rfl)) rfl ?_
      refine WL.callP [2, 2, 2, 2, 2] rfl rfl (tRemove A top hA o.id _) rfl ?_
      rintro _ I3 _ hI3 ⟨_, B, rfl, ⟨kn, rfl, hkn, hin⟩, hb, rfl, hB⟩
      obtain ⟨na2, nc2, rfl⟩ := hkn.sl
      rw [← hb]
      refine WL.nApp ?_
      have hrs2 := (hA.remSize o.id).2
      by_cases he : (Nd.remove top o.id).2.2.2.2 = 0
      · have hu := hA.undoRemove hG (i := o.id) (t1 := (Nd.remove top o.id).1) (n := (Nd.remove top o.id).2.1) (q := (Nd.remove top o.id).2.2.1) (k := (Nd.remove top o.id).2.2.2.1) (Prod.ext rfl (Prod.ext rfl (Prod.ext rfl (Prod.ext rfl he))))
        refine WL.val (Val.moveT rfl) rfl ?_
        refine WL.val (Val.extractA rfl rfl) rfl ?_
        refine WL.val (Val.extractI rfl rfl) rfl ?_
        refine WL.val (Val.extractI rfl rfl) rfl ?_
        refine WL.val (Val.extractI rfl rfl) rfl ?_
        (refine WL.alloc rfl ?_; intro _)
        refine WL.nApp ?_
        refine WL.stA 8 rfl rfl rfl rfl ?_
        refine WL.val (Val.assignI rfl) rfl ?_
        refine WL.val (Val.assignI rfl) rfl ?_
        refine WL.val (Val.assignI rfl) rfl ?_
        refine WL.nil ?_
        refine WX.thenC ?_
        refine WC.seq ?_
        refine WC.region ?_
        refine WL.val (Val.moveI rfl) rfl ?_
        refine WL.val (Val.assignI rfl) rfl ?_
        refine WL.nil ?_
        refine WX.thenC ?_
        refine WC.seq ?_
        refine WC.region ?_
        refine WL.val (Val.moveI rfl) rfl ?_
        refine WL.val (Val.eql rfl rfl (beq_iff_eq.2 (by omega))) rfl ?_
        refine WL.val (Val.moveB rfl) rfl ?_
        refine WL.gT rfl rfl ?_
        refine WL.val (Val.moveP rfl) rfl ?_
        refine WL.gT rfl rfl ?_
        refine WL.val (Val.moveI rfl) rfl ?_
        refine WL.gT rfl rfl ?_
        refine WL.val (Val.moveI rfl) rfl ?_
        refine WL.gT rfl rfl ?_
        refine WL.val (Val.ldO 8 rfl rfl rfl) rfl ?_
        refine WL.gT rfl rfl ?_
        refine WL.callP [3, 3, 3, 3, 3] rfl rfl (tAdd B _ hB (Nd.remove top o.id).2.1 _ _ _ _ (by omega) hin hkn) rfl ?_
        rw [hu]
        rintro v I4 _ hI4 ⟨hv, C, hc, rfl, hC⟩
        replace hv : v = vi 0 := hv
        subst hv
        rw [← hc]
        refine WL.nApp ?_
        refine WL.gT rfl rfl ?_
        refine WL.val (Val.neq rfl rfl (bne_eq_false_iff_eq.2 (by omega))) rfl ?_
        refine WL.val (Val.pickBT rfl rfl) rfl ?_
        refine WL.nil ?_
        refine WX.thenC ?_
        refine WC.condF rfl ?_
        refine WC.skip ?_
        refine WX.inNormal ?_
        refine WX.conv (fun w h => h.sub [0, 1, 2, 2, 2, 2, 2] rfl) ?_
        exact WX.thenK (WK.meet ⟨C, hI3.trans hI4, hC, rfl, rfl, rfl⟩)
      · have hre : (Nd.remove top o.id).1 = top := by
          rcases hA.rem o.id with ⟨_, e⟩ | ⟨p, j, _, _, _, _, _, _, e, _⟩
          · exact e
          · rw [e] at he; exact absurd rfl he
        rw [hre] at hB
        refine WL.val (Val.moveT rfl) rfl ?_
        refine WL.val (Val.extractA rfl rfl) rfl ?_
        refine WL.val (Val.extractI rfl rfl) rfl ?_
        refine WL.val (Val.extractI rfl rfl) rfl ?_
        refine WL.val (Val.extractI rfl rfl) rfl ?_
        (refine WL.alloc rfl ?_; intro _)
        refine WL.nApp ?_
        refine WL.stA 8 rfl rfl rfl rfl ?_
        refine WL.val (Val.assignI rfl) rfl ?_
        refine WL.val (Val.assignI rfl) rfl ?_
        refine WL.val (Val.assignI rfl) rfl ?_
        refine WL.nil ?_
        refine WX.thenC ?_
        refine WC.seq ?_
        refine WC.region ?_
        refine WL.val (Val.moveI rfl) rfl ?_
        refine WL.val (Val.assignI rfl) rfl ?_
        refine WL.nil ?_
        refine WX.thenC ?_
        refine WC.seq ?_
        refine WC.region ?_
        refine WL.val (Val.moveI rfl) rfl ?_
        refine WL.val (Val.eql rfl rfl (beq_eq_false_iff_ne.2 (by omega))) rfl ?_
        refine WL.val (Val.moveB rfl) rfl ?_
        refine WL.gF rfl rfl rfl rfl ?_
        refine WL.gF rfl rfl rfl rfl ?_
        refine WL.gF rfl rfl rfl rfl ?_
        refine WL.gF rfl rfl rfl rfl ?_
        refine WL.gF rfl rfl rfl rfl ?_
        refine WL.gF rfl rfl rfl rfl ?_
        refine WL.val (Val.pickBF rfl rfl) rfl ?_
        refine WL.nil ?_
        refine WX.thenC ?_
        refine WC.condF rfl ?_
        refine WC.skip ?_
        refine WX.inNormal ?_
        refine WX.conv (fun w h => h.sub [0, 1, 1, 1, 1, 1, 1] rfl) ?_
        exact WX.thenK (WK.meet ⟨B, hI3, hB, rfl, rfl, rfl⟩)
    by_cases k3 : o.kind = 3
    · skip
      refine WC.condF rfl ?_
      refine WC.seq ?_
      refine WC.region ?_
      refine WL.val (Val.eql rfl rfl (beq_eq_false_iff_ne.2 (by omega))) rfl ?_
      refine WL.val (Val.assignB rfl) rfl ?_
      refine WL.nil ?_
      refine WX.thenC ?_
      refine WC.condF rfl ?_
      refine WC.seq ?_
      refine WC.region ?_
      refine WL.val (Val.eql rfl rfl (beq_iff_eq.2 (by omega))) rfl ?_
      refine WL.val (Val.assignB rfl) rfl ?_
      refine WL.nil ?_
      refine WX.thenC ?_
      refine WC.condT rfl ?_
      refine WC.seq ?_
      refine WC.region ?_
      refine WL.val (Val.moveP rfl) rfl ?_
      refine WL.val (Val.fldAddr rfl) rfl ?_
      refine WL.val (Val.loadS rfl (Rd.own1 1 rfl rfl)) rfl ?_
      refine WL.callK [2, 2, 2, 2, 2] rfl rfl rfl (aWhere A top hA o.id _) rfl ?_
      rintro _ rfl
      have hwv : whrV (Nd.whr o.id top) = .tuple #[vi ((Nd.whr o.id top).getD (0, 0)).1, vi ((Nd.whr o.id top).getD (0, 0)).2, .bool (Nd.whr o.id top).isSome] := by cases Nd.whr o.id top <;> rfl
      rw [hwv]
      refine WL.val (Val.moveT rfl) rfl ?_
      refine WL.val (Val.extractI rfl rfl) rfl ?_
      refine WL.val (Val.extractI rfl rfl) rfl ?_
      refine WL.val (Val.extractB rfl rfl) rfl ?_
      refine WL.val (Val.assignI rfl) rfl ?_
      refine WL.val (Val.assignI rfl) rfl ?_
      refine WL.val (Val.assignB rfl) rfl ?_
      refine WL.nil ?_
      refine WX.thenC ?_
      refine WC.seq ?_
      refine WC.region ?_
      refine WL.val (Val.moveP rfl) rfl ?_
      refine WL.val (Val.fldAddr rfl) rfl ?_
      refine WL.val (Val.loadS rfl (Rd.own1 1 rfl rfl)) rfl ?_
      refine WL.val (Val.fldAddr rfl) rfl ?_
      refine WL.val (Val.loadS rfl (Rd.own1 1 rfl rfl)) rfl ?_
      refine WL.val (Val.fldAddr rfl) rfl ?_
      refine WL.val (Val.loadS rfl (Rd.own1 1 rfl rfl)) rfl ?_
      refine WL.callP [2, 2, 2, 2, 2] rfl rfl (tMove A top hA o.id o.parent o.index _) rfl ?_
      rintro _ I3 _ hI3 ⟨rfl, B, hb, rfl, hB⟩
      rw [← hb]
      refine WL.nApp ?_
      by_cases he : (Nd.move top o.id o.parent o.index).2 = 0
      · obtain ⟨q, k, hw⟩ : ∃ q k, Nd.whr o.id top = some (q, k) := by
          rcases hA.rem o.id with ⟨h0, _⟩ | ⟨p, j, _, _, _, _, hw, _⟩
          · rw [Nd.move, if_pos h0] at he; exact absurd he h0
          · exact ⟨_, _, hw⟩
        have hu := hA.undoMove hG hB (Prod.ext rfl he) hw
        rw [hw]
        simp only [Option.getD_some]
        refine WL.val (Val.assignI rfl) rfl ?_
        refine WL.nil ?_
        refine WX.thenC ?_
        refine WC.seq ?_
        refine WC.region ?_
        refine WL.val (Val.moveI rfl) rfl ?_
        refine WL.val (Val.eql rfl rfl (beq_iff_eq.2 (by omega))) rfl ?_
        refine WL.val (Val.moveB rfl) rfl ?_
        refine WL.gT rfl rfl ?_
        refine WL.val (Val.moveP rfl) rfl ?_
        refine WL.gT rfl rfl ?_
        refine WL.val (Val.fldAddr rfl) rfl ?_
        refine WL.gT rfl rfl ?_
        refine WL.val (Val.loadS rfl (Rd.own1 1 rfl rfl)) rfl ?_
        refine WL.gT rfl rfl ?_
        refine WL.val (Val.moveI rfl) rfl ?_
        refine WL.gT rfl rfl ?_
        refine WL.val (Val.moveI rfl) rfl ?_
        refine WL.gT rfl rfl ?_
        refine WL.callP [3, 3, 3, 3, 3] rfl rfl (tMove B _ hB o.id q k _) rfl ?_
        rw [hu]
        rintro v I4 _ hI4 ⟨hv, C, hc, rfl, hC⟩
        replace hv : v = vi 0 := hv
        subst hv
        rw [← hc]
        refine WL.nApp ?_
        refine WL.gT rfl rfl ?_
        refine WL.val (Val.neq rfl rfl (bne_eq_false_iff_eq.2 (by omega))) rfl ?_
        refine WL.val (Val.pickBT rfl rfl) rfl ?_
        refine WL.nil ?_
        refine WX.thenC ?_
        refine WC.condF rfl ?_
        refine WC.skip ?_
        refine WX.inNormal ?_
        refine WX.conv (fun w h => h.sub [0, 1, 1, 1, 1, 1, 1] rfl) ?_
        exact WX.thenK (WK.meet ⟨C, hI3.trans hI4, hC, rfl, rfl, rfl⟩)
      · rw [Nd.move_err he] at hB
        refine WL.val (Val.assignI rfl) rfl ?_
        refine WL.nil ?_
        refine WX.thenC ?_
        refine WC.seq ?_
        refine WC.region ?_
        refine WL.val (Val.moveI rfl) rfl ?_
        refine WL.val (Val.eql rfl rfl (beq_eq_false_iff_ne.2 (by omega))) rfl ?_
        refine WL.val (Val.moveB rfl) rfl ?_
        refine WL.gF rfl rfl rfl rfl ?_
        refine WL.gF rfl rfl rfl rfl ?_
        refine WL.gF rfl rfl rfl rfl ?_
        refine WL.gF rfl rfl rfl rfl ?_
        refine WL.gF rfl rfl rfl rfl ?_
        refine WL.gF rfl rfl rfl rfl ?_
        refine WL.gF rfl rfl rfl rfl ?_
        refine WL.val (Val.pickBF rfl rfl) rfl ?_
        refine WL.nil ?_
        refine WX.thenC ?_
        refine WC.condF rfl ?_
        refine WC.skip ?_
        refine WX.inNormal ?_
        refine WX.conv (fun w h => h.sub [0, 1, 1, 1, 1, 1, 1] rfl) ?_
        exact WX.thenK (WK.meet ⟨B, hI3, hB, rfl, rfl, rfl⟩)
    by_cases k4 : o.kind = 4
    · skip
      refine WC.condF rfl ?_
      refine WC.seq ?_
      refine WC.region ?_
      refine WL.val (Val.eql rfl rfl (beq_eq_false_iff_ne.2 (by omega))) rfl ?_
      refine WL.val (Val.assignB rfl) rfl ?_
      refine WL.nil ?_
      refine WX.thenC ?_
      refine WC.condF rfl ?_
      refine WC.seq ?_
      refine WC.region ?_
      refine WL.val (Val.eql rfl rfl (beq_eq_false_iff_ne.2 (by omega))) rfl ?_
      refine WL.val (Val.assignB rfl) rfl ?_
      refine WL.nil ?_
      refine WX.thenC ?_
      refine WC.condF rfl ?_
      refine WC.seq ?_
      refine WC.region ?_
      refine WL.val (Val.eql rfl rfl (beq_iff_eq.2 (by omega))) rfl ?_
      refine WL.val (Val.assignB rfl) rfl ?_
      refine WL.nil ?_
      refine WX.thenC ?_
      refine WC.condT rfl ?_
      refine WC.seq ?_
      refine WC.region ?_
      refine WL.val (Val.moveP rfl) rfl ?_
      refine WL.val (Val.fldAddr rfl) rfl ?_
      refine WL.val (Val.loadS rfl (Rd.own1 1 rfl rfl)) rfl ?_
      refine WL.val (Val.fldAddr rfl) rfl ?_
      refine WL.val (Val.loadS rfl (Rd.own1 1 rfl rfl)) rfl ?_
      refine WL.val (Val.fldAddr rfl) rfl ?_
      refine WL.val (Val.loadS rfl (Rd.own1 1 rfl rfl)) rfl ?_
      refine WL.val (Val.fldAddr rfl) rfl ?_
      refine WL.val (Val.loadS rfl (Rd.own1 1 rfl rfl)) rfl ?_
      refine WL.callP [2, 2, 2, 2, 2] rfl rfl (tWrap A top hA o.id o.parent o.index o.count _ d64 c64) rfl ?_
      rintro _ I3 _ hI3 ⟨rfl, B, hb, rfl, hB⟩
      rw [← hb]
      refine WL.nApp ?_
      by_cases he : (Nd.wrap top o.id o.parent o.index o.count).2 = 0
      · have hu := hA.undoWrap hB (Prod.ext rfl he)
        refine WL.val (Val.assignI rfl) rfl ?_
        refine WL.nil ?_
        refine WX.thenC ?_
        refine WC.seq ?_
        refine WC.region ?_
        refine WL.val (Val.moveI rfl) rfl ?_
        refine WL.val (Val.eql rfl rfl (beq_iff_eq.2 (by omega))) rfl ?_
        refine WL.nil ?_
        refine WX.thenC ?_
        refine WC.condT rfl ?_
        refine WC.seq ?_
        refine WC.region ?_
        refine WL.val (Val.moveP rfl) rfl ?_
        refine WL.val (Val.fldAddr rfl) rfl ?_
        refine WL.val (Val.loadS rfl (Rd.own1 1 rfl rfl)) rfl ?_
        refine WL.callP [3, 3, 3, 3, 3] rfl rfl (tUnwrap B _ hB o.id _) rfl ?_
        rw [hu]
        rintro v I4 _ hI4 ⟨_, C, hv, hc, rfl, hC⟩
        replace hv : v = .tuple #[vi o.parent, vi o.index, vi o.count, vi 0] := hv
        subst hv
        rw [← hc]
        refine WL.nApp ?_
        refine WL.val (Val.moveT rfl) rfl ?_
        refine WL.val (Val.extractI rfl rfl) rfl ?_
        refine WL.val (Val.extractI rfl rfl) rfl ?_
        refine WL.val (Val.extractI rfl rfl) rfl ?_
        refine WL.val (Val.extractI rfl rfl) rfl ?_
        refine WL.val (Val.assignI rfl) rfl ?_
        refine WL.val (Val.assignI rfl) rfl ?_
        refine WL.val (Val.assignI rfl) rfl ?_
        refine WL.val (Val.assignI rfl) rfl ?_
        refine WL.nil ?_
        refine WX.thenC ?_
        refine WC.seq ?_
        refine WC.region ?_
        refine WL.val (Val.moveI rfl) rfl ?_
        refine WL.val (Val.neq rfl rfl (bne_eq_false_iff_eq.2 (by omega))) rfl ?_
        refine WL.val (Val.moveB rfl) rfl ?_
        refine WL.gT rfl rfl ?_
        refine WL.val (Val.moveI rfl) rfl ?_
        refine WL.gT rfl rfl ?_
        refine WL.val (Val.fldAddr rfl) rfl ?_
        refine WL.gT rfl rfl ?_
        refine WL.val (Val.loadS rfl (Rd.own1 1 rfl rfl)) rfl ?_
        refine WL.gT rfl rfl ?_
        refine WL.val (Val.neq rfl rfl (bne_eq_false_iff_eq.2 (by omega))) rfl ?_
        refine WL.val (Val.pickBF rfl rfl) rfl ?_
        refine WL.val (Val.moveB rfl) rfl ?_
        refine WL.gT rfl rfl ?_
        refine WL.val (Val.moveI rfl) rfl ?_
        refine WL.gT rfl rfl ?_
        refine WL.val (Val.fldAddr rfl) rfl ?_
        refine WL.gT rfl rfl ?_
        refine WL.val (Val.loadS rfl (Rd.own1 1 rfl rfl)) rfl ?_
        refine WL.gT rfl rfl ?_
        refine WL.val (Val.neq rfl rfl (bne_eq_false_iff_eq.2 (by omega))) rfl ?_
        refine WL.val (Val.pickBF rfl rfl) rfl ?_
        refine WL.val (Val.moveB rfl) rfl ?_
        refine WL.gT rfl rfl ?_
        refine WL.val (Val.moveI rfl) rfl ?_
        refine WL.gT rfl rfl ?_
        refine WL.val (Val.fldAddr rfl) rfl ?_
        refine WL.gT rfl rfl ?_
        refine WL.val (Val.loadS rfl (Rd.own1 1 rfl rfl)) rfl ?_
        refine WL.gT rfl rfl ?_
        refine WL.val (Val.neq rfl rfl (bne_eq_false_iff_eq.2 (by omega))) rfl ?_
        refine WL.val (Val.pickBF rfl rfl) rfl ?_
        refine WL.nil ?_
        refine WX.thenC ?_
        refine WC.condF rfl ?_
        refine WC.skip ?_
        refine WX.inNormal ?_
        refine WX.conv (fun w h => h.sub [0, 1, 1, 1, 1, 1, 1] rfl) ?_
        exact WX.thenK (WK.meet ⟨C, hI3.trans hI4, hC, rfl, rfl, rfl⟩)
      · rw [Nd.wrap_err he] at hB
        refine WL.val (Val.assignI rfl) rfl ?_
        refine WL.nil ?_
        refine WX.thenC ?_
        refine WC.seq ?_
        refine WC.region ?_
        refine WL.val (Val.moveI rfl) rfl ?_
        refine WL.val (Val.eql rfl rfl (beq_eq_false_iff_ne.2 (by omega))) rfl ?_
        refine WL.nil ?_
        refine WX.thenC ?_
        refine WC.condF rfl ?_
        refine WC.skip ?_
        refine WX.inNormal ?_
        refine WX.conv (fun w h => h.sub [0, 1, 1, 1, 1, 1, 1] rfl) ?_
        exact WX.thenK (WK.meet ⟨B, hI3, hB, rfl, rfl, rfl⟩)
    by_cases k5 : o.kind = 5
    · skip
      refine WC.condF rfl ?_
      refine WC.seq ?_
      refine WC.region ?_
      refine WL.val (Val.eql rfl rfl (beq_eq_false_iff_ne.2 (by omega))) rfl ?_
      refine WL.val (Val.assignB rfl) rfl ?_
      refine WL.nil ?_
      refine WX.thenC ?_
      refine WC.condF rfl ?_
      refine WC.seq ?_
      refine WC.region ?_
      refine WL.val (Val.eql rfl rfl (beq_eq_false_iff_ne.2 (by omega))) rfl ?_
      refine WL.val (Val.assignB rfl) rfl ?_
      refine WL.nil ?_
      refine WX.thenC ?_
      refine WC.condF rfl ?_
      refine WC.seq ?_
      refine WC.region ?_
      refine WL.val (Val.eql rfl rfl (beq_eq_false_iff_ne.2 (by omega))) rfl ?_
      refine WL.val (Val.assignB rfl) rfl ?_
      refine WL.nil ?_
      refine WX.thenC ?_
      refine WC.condF rfl ?_
      refine WC.seq ?_
      refine WC.region ?_
      refine WL.val (Val.eql rfl rfl (beq_iff_eq.2 (by omega))) rfl ?_
      refine WL.val (Val.assignB rfl) rfl ?_
      refine WL.nil ?_
      refine WX.thenC ?_
      refine WC.condT rfl ?_
      refine WC.seq ?_
      refine WC.region ?_
      refine WL.val (Val.moveP rfl) rfl ?_
      refine WL.val (Val.fldAddr rfl) rfl ?_
      refine WL.val (Val.loadS rfl (Rd.own1 1 rfl rfl)) rfl ?_
      refine WL.callP [2, 2, 2, 2, 2] rfl rfl (tUnwrap A top hA o.id _) rfl ?_
      rintro _ I3 _ hI3 ⟨_, B, rfl, hb, rfl, hB⟩
      rw [← hb]
      refine WL.nApp ?_
      have hcnt := hA.unwrapCnt o.id
      by_cases he : (Nd.unwrap top o.id).2.2.2.2 = 0
      · have hu := hA.undoUnwrap hG (i := o.id) (t1 := (Nd.unwrap top o.id).1) (q := (Nd.unwrap top o.id).2.1) (k := (Nd.unwrap top o.id).2.2.1) (c := (Nd.unwrap top o.id).2.2.2.1) (Prod.ext rfl (Prod.ext rfl (Prod.ext rfl (Prod.ext rfl he))))
        refine WL.val (Val.moveT rfl) rfl ?_
        refine WL.val (Val.extractI rfl rfl) rfl ?_
        refine WL.val (Val.extractI rfl rfl) rfl ?_
        refine WL.val (Val.extractI rfl rfl) rfl ?_
        refine WL.val (Val.extractI rfl rfl) rfl ?_
        refine WL.val (Val.assignI rfl) rfl ?_
        refine WL.val (Val.assignI rfl) rfl ?_
        refine WL.val (Val.assignI rfl) rfl ?_
        refine WL.val (Val.assignI rfl) rfl ?_
        refine WL.nil ?_
        refine WX.thenC ?_
        refine WC.seq ?_
        refine WC.region ?_
        refine WL.val (Val.moveI rfl) rfl ?_
        refine WL.val (Val.assignI rfl) rfl ?_
        refine WL.nil ?_
        refine WX.thenC ?_
        refine WC.seq ?_
        refine WC.region ?_
        refine WL.val (Val.moveI rfl) rfl ?_
        refine WL.val (Val.eql rfl rfl (beq_iff_eq.2 (by omega))) rfl ?_
        refine WL.val (Val.moveB rfl) rfl ?_
        refine WL.gT rfl rfl ?_
        refine WL.val (Val.moveP rfl) rfl ?_
        refine WL.gT rfl rfl ?_
        refine WL.val (Val.fldAddr rfl) rfl ?_
        refine WL.gT rfl rfl ?_
        refine WL.val (Val.loadS rfl (Rd.own1 1 rfl rfl)) rfl ?_
        refine WL.gT rfl rfl ?_
        refine WL.val (Val.moveI rfl) rfl ?_
        refine WL.gT rfl rfl ?_
        refine WL.val (Val.moveI rfl) rfl ?_
        refine WL.gT rfl rfl ?_
        refine WL.val (Val.moveI rfl) rfl ?_
        refine WL.gT rfl rfl ?_
        refine WL.callP [3, 3, 3, 3, 3] rfl rfl (tWrap B _ hB o.id _ _ _ _ d64 hcnt) rfl ?_
        rw [hu]
        rintro v I4 _ hI4 ⟨hv, C, hc, rfl, hC⟩
        replace hv : v = vi 0 := hv
        subst hv
        rw [← hc]
        refine WL.nApp ?_
        refine WL.gT rfl rfl ?_
        refine WL.val (Val.neq rfl rfl (bne_eq_false_iff_eq.2 (by omega))) rfl ?_
        refine WL.val (Val.pickBT rfl rfl) rfl ?_
        refine WL.nil ?_
        refine WX.thenC ?_
        refine WC.condF rfl ?_
        refine WC.skip ?_
        refine WX.inNormal ?_
        refine WX.conv (fun w h => h.sub [0, 1, 1, 1, 1, 1, 1] rfl) ?_
        exact WX.thenK (WK.meet ⟨C, hI3.trans hI4, hC, rfl, rfl, rfl⟩)
      · rw [Nd.unwrap_err he] at hB
        refine WL.val (Val.moveT rfl) rfl ?_
        refine WL.val (Val.extractI rfl rfl) rfl ?_
        refine WL.val (Val.extractI rfl rfl) rfl ?_
        refine WL.val (Val.extractI rfl rfl) rfl ?_
        refine WL.val (Val.extractI rfl rfl) rfl ?_
        refine WL.val (Val.assignI rfl) rfl ?_
        refine WL.val (Val.assignI rfl) rfl ?_
        refine WL.val (Val.assignI rfl) rfl ?_
        refine WL.val (Val.assignI rfl) rfl ?_
        refine WL.nil ?_
        refine WX.thenC ?_
        refine WC.seq ?_
        refine WC.region ?_
        refine WL.val (Val.moveI rfl) rfl ?_
        refine WL.val (Val.assignI rfl) rfl ?_
        refine WL.nil ?_
        refine WX.thenC ?_
        refine WC.seq ?_
        refine WC.region ?_
        refine WL.val (Val.moveI rfl) rfl ?_
        refine WL.val (Val.eql rfl rfl (beq_eq_false_iff_ne.2 (by omega))) rfl ?_
        refine WL.val (Val.moveB rfl) rfl ?_
        refine WL.gF rfl rfl rfl rfl ?_
        refine WL.gF rfl rfl rfl rfl ?_
        refine WL.gF rfl rfl rfl rfl ?_
        refine WL.gF rfl rfl rfl rfl ?_
        refine WL.gF rfl rfl rfl rfl ?_
        refine WL.gF rfl rfl rfl rfl ?_
        refine WL.gF rfl rfl rfl rfl ?_
        refine WL.gF rfl rfl rfl rfl ?_
        refine WL.val (Val.pickBF rfl rfl) rfl ?_
        refine WL.nil ?_
        refine WX.thenC ?_
        refine WC.condF rfl ?_
        refine WC.skip ?_
        refine WX.inNormal ?_
        refine WX.conv (fun w h => h.sub [0, 1, 1, 1, 1, 1, 1] rfl) ?_
        exact WX.thenK (WK.meet ⟨B, hI3, hB, rfl, rfl, rfl⟩)
    refine WC.condF rfl ?_
    refine WC.seq ?_
    refine WC.region ?_
    refine WL.val (Val.eql rfl rfl (beq_eq_false_iff_ne.2 (by omega))) rfl ?_
    refine WL.val (Val.assignB rfl) rfl ?_
    refine WL.nil ?_
    refine WX.thenC ?_
    refine WC.condF rfl ?_
    refine WC.seq ?_
    refine WC.region ?_
    refine WL.val (Val.eql rfl rfl (beq_eq_false_iff_ne.2 (by omega))) rfl ?_
    refine WL.val (Val.assignB rfl) rfl ?_
    refine WL.nil ?_
    refine WX.thenC ?_
    refine WC.condF rfl ?_
    refine WC.seq ?_
    refine WC.region ?_
    refine WL.val (Val.eql rfl rfl (beq_eq_false_iff_ne.2 (by omega))) rfl ?_
    refine WL.val (Val.assignB rfl) rfl ?_
    refine WL.nil ?_
    refine WX.thenC ?_
    refine WC.condF rfl ?_
    refine WC.seq ?_
    refine WC.region ?_
    refine WL.val (Val.eql rfl rfl (beq_eq_false_iff_ne.2 (by omega))) rfl ?_
    refine WL.val (Val.assignB rfl) rfl ?_
    refine WL.nil ?_
    refine WX.thenC ?_
    refine WC.condF rfl ?_
    refine WC.skip ?_
    refine WX.inNormal ?_
    refine WX.conv (fun w h => h.sub [0, 6, 1, 1, 1, 1, 1] rfl) ?_
    exact WX.thenK (WK.meet ⟨A, Mem.le.refl _, hA, rfl, rfl, rfl⟩)
  rintro ρ' I' L' ⟨B, hI', hB, r5, r6, rfl⟩
  rw [← upd_self r6, ← upd_self r5]
  clear r6 r5
  refine WC.seq ?_
  refine WC.region ?_
  refine WL.val (Val.moveP rfl) rfl ?_
  refine WL.callR [2, 2, 2, 2, 2] rfl rfl rfl (aNode B top hB 0 _) rfl ?_
  rintro _ I3 hI3 ⟨_, rfl, kn, rfl, hkn, hin⟩
  rw [hB.find0] at hkn hin ⊢
  simp only [Option.isSome, Option.getD] at hkn hin ⊢
  obtain ⟨na2, nc2, rfl⟩ := hkn.sl
  have hkv3 := hkv.mono (hI'.trans hI3)
  refine WL.val (Val.moveT rfl) rfl ?_
  refine WL.val (Val.extractA rfl rfl) rfl ?_
  refine WL.val (Val.extractB rfl rfl) rfl ?_
  (refine WL.alloc rfl ?_; intro _)
  refine WL.nApp ?_
  refine WL.stA 7 rfl rfl rfl rfl ?_
  refine WL.val (Val.assignB rfl) rfl ?_
  refine WL.nil ?_
  refine WX.thenC ?_
  refine WC.seq ?_
  refine WC.region ?_
  refine WL.val (Val.moveB rfl) rfl ?_
  refine WL.val (Val.moveB rfl) rfl ?_
  refine WL.gT rfl rfl ?_
  refine WL.val (Val.ldO 7 rfl rfl rfl) rfl ?_
  refine WL.gT rfl rfl ?_
  refine WL.val (Val.ldO 1 rfl rfl rfl) rfl ?_
  refine WL.gT rfl rfl ?_
  refine WL.callE rfl rfl (rSame _ _ (Nat.le_refl _) _ _ _ _ (by omega) hin hkn hin hkv3) rfl (fun h => ?_) (fun h => absurd rfl h)
  refine WL.val (Val.pickBT rfl rfl) rfl ?_
  refine WL.val (Val.moveB rfl) rfl ?_
  refine WL.gT rfl rfl ?_
  refine WL.callP [] rfl rfl (tAwake _) rfl ?_
  rintro _ I4 _ hI4 ⟨rfl, rfl⟩
  refine WL.nApp ?_
  have hJ := hI1.trans (hI'.trans (hI3.trans hI4))
  refine WL.val (Val.pickBT rfl rfl) rfl ?_
  refine WL.val (Val.assignB rfl) rfl ?_
  refine WL.nil ?_
  refine WX.thenC ?_
  refine WC.ret ?_
  apply WX.doneP (ks := [])
  case hres => exact RunRes.r1 rfl (ResIs.tmpB rfl)
  case hI => first | exact Mem.le.refl _ | assumption
  exact ⟨rfl, rfl⟩
end Go.Proofs.Ytfdeckdongonnab
