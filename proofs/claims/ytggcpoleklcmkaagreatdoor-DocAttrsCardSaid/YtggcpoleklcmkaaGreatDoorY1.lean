/-
  Tree, in plain Lean: nodes within nodes, and what the document says of them.
-/
import Derived.Test.YtggcpoleklcmkaaGreatDoorX3
import Derived.Test.YtggcpoleklcmkaaGreatDoorX4
import Derived.Test.YtggcpoleklcmkaaGreatDoorX2
namespace Go.Tr
open Go.Sl Go.Ls
set_option linter.unusedVariables false
set_option linter.unusedSimpArgs false
inductive Nd where
  | mk (id : Int) (grp : Bool) (kids : List Nd)
namespace Nd
def id : Nd → Int | .mk i _ _ => i
def grp : Nd → Bool | .mk _ g _ => g
def kids : Nd → List Nd | .mk _ _ ks => ks
mutual
def size : Nd → Nat | .mk _ _ ks => 1 + sizes ks
def sizes : List Nd → Nat | [] => 0 | k :: ks => k.size + sizes ks
end
mutual
def height : Nd → Nat | .mk _ _ ks => heights ks + 1
def heights : List Nd → Nat | [] => 0 | k :: ks => max k.height (heights ks)
end
mutual
def order : Nd → List Int | .mk i _ ks => i :: orders ks
def orders : List Nd → List Int | [] => [] | k :: ks => k.order ++ orders ks
end
mutual
def find (i : Int) : Nd → Option Nd | .mk j g ks => if j = i then some (.mk j g ks) else finds i ks
def finds (i : Int) : List Nd → Option Nd | [] => none | k :: ks => (find i k).or (finds i ks)
end
mutual
def depth (i : Int) : Nd → Int | .mk j g ks => if j = i then 0 else depths i ks
def depths (i : Int) : List Nd → Int | [] => -1 | k :: ks => if 0 ≤ depth i k then depth i k + 1 else depths i ks
end
mutual
def whr (i : Int) : Nd → Option (Int × Int) | .mk j _ ks => whrs i j 0 ks
def whrs (i j : Int) (n : Nat) : List Nd → Option (Int × Int) | [] => none | k :: ks => if k.id = i then some (j, (n : Int)) else (whr i k).or (whrs i j (n + 1) ks)
end
mutual
def with_ (i : Int) (l : List Nd) : Nd → Nd | .mk j g ks => .mk j g (if j = i then l else withs i l ks)
def withs (i : Int) (l : List Nd) : List Nd → List Nd | [] => [] | k :: ks => with_ i l k :: withs i l ks
end
theorem sizes_app : ∀ (a b : List Nd), sizes (a ++ b) = sizes a + sizes b
  | [], b => by simp [sizes]
  | x :: a, b => by simp only [List.cons_append, sizes, sizes_app a b]; omega
theorem heights_app : ∀ (a b : List Nd), heights (a ++ b) = max (heights a) (heights b)
  | [], b => by simp [heights]
  | x :: a, b => by simp only [List.cons_append, heights, heights_app a b]; omega
theorem orders_app : ∀ (a b : List Nd), orders (a ++ b) = orders a ++ orders b
  | [], b => by simp [orders]
  | x :: a, b => by simp only [List.cons_append, orders, orders_app a b, List.append_assoc]
theorem withs_len (i : Int) (l : List Nd) : ∀ (a : List Nd), (withs i l a).length = a.length
  | [] => rfl
  | x :: a => by simp only [withs, List.length_cons, withs_len i l a]
theorem size_pos (n : Nd) : 0 < n.size := by cases n; simp only [size]; omega
theorem size_le_sizes : ∀ {l : List Nd} {k : Nd}, k ∈ l → k.size ≤ sizes l
  | x :: l, k, h => by
    simp only [sizes]
    rcases List.mem_cons.1 h with rfl | h
    · omega
    · have := size_le_sizes h; omega
  | [], _, h => by cases h
theorem sizes_take : ∀ (l : List Nd) (k : Nat), sizes (l.take k) ≤ sizes l
  | [], k => by simp [sizes]
  | x :: l, 0 => by simp [sizes]
  | x :: l, k + 1 => by simp only [List.take_succ_cons, sizes]; have := sizes_take l k; omega
theorem len_le_sizes : ∀ (l : List Nd), l.length ≤ sizes l
  | [] => by simp
  | x :: l => by simp only [List.length_cons, sizes]; have := len_le_sizes l; have := size_pos x; omega
theorem depth_le (i : Int) : (∀ n : Nd, depth i n < n.size ∧ -1 ≤ depth i n) := by
  intro n
  refine Nd.rec (motive_1 := fun n => depth i n < n.size ∧ -1 ≤ depth i n) (motive_2 := fun l => depths i l ≤ sizes l ∧ -1 ≤ depths i l) ?_ ?_ ?_ n
  · intro j g ks ih
    simp only [depth, size]
    split <;> omega
  · simp [depths, sizes]
  · intro k ks h1 h2
    simp only [depths, sizes]
    have := size_pos k
    split <;> omega
theorem height_le : ∀ n : Nd, n.height ≤ n.size := by
  intro n
  refine Nd.rec (motive_1 := fun n => n.height ≤ n.size) (motive_2 := fun l => heights l ≤ sizes l) ?_ ?_ ?_ n
  · intro j g ks ih
    simp only [height, size]; omega
  · simp [heights]
  · intro k ks h1 h2
    simp only [heights, sizes]; omega
theorem order_len : ∀ n : Nd, n.order.length = n.size := by
  intro n
  refine Nd.rec (motive_1 := fun n => n.order.length = n.size) (motive_2 := fun l => (orders l).length = sizes l) ?_ ?_ ?_ n
  · intro j g ks ih
    simp only [order, size, List.length_cons, ih]; omega
  · rfl
  · intro k ks h1 h2
    simp only [orders, sizes, List.length_append, h1, h2]
/-! cells -/
mutual
def rep (I : Mem) : Nd → List Value → Prop
  | .mk i g ks, cs => I64 i ∧ ∃ kv css, cs = [vi i, .bool g, kv] ∧ SlAt I kv ks.length css.flatten ∧ reps I ks css
def reps (I : Mem) : List Nd → List (List Value) → Prop
  | [], [] => True
  | k :: ks, c :: css => rep I k c ∧ reps I ks css
  | _, _ => False
end
theorem reps_all {I : Mem} : ∀ {l : List Nd} {css : List (List Value)}, reps I l css ↔ All2 (rep I) l css
  | [], [] => by simp [reps, All2]
  | k :: ks, c :: css => by simp only [reps, All2, reps_all]
  | [], _ :: _ => by simp [reps, All2]
  | _ :: _, [] => by simp [reps, All2]
abbrev Rp : Rep Nd := fun I n cs => rep I n cs
theorem rep_mono {I I' : Mem} (hI : I.le I') : ∀ (n : Nd) (cs : List Value), rep I n cs → rep I' n cs := by
  intro n
  refine Nd.rec (motive_1 := fun n => ∀ cs, rep I n cs → rep I' n cs) (motive_2 := fun l => ∀ css, reps I l css → reps I' l css) ?_ ?_ ?_ n
  · rintro i g ks ih cs ⟨h1, kv, css, h2, h3, h4⟩
    exact ⟨h1, kv, css, h2, h3.mono hI, ih _ h4⟩
  · intro css h; cases css with
    | nil => trivial
    | cons _ _ => exact h.elim
  · intro k ks h1 h2 css h; cases css with
    | nil => exact h.elim
    | cons c css => exact ⟨h1 _ h.1, h2 _ h.2⟩
instance : RepMono Rp := ⟨fun h hI => rep_mono hI _ _ h⟩
instance : RepLen Rp 3 := ⟨fun {I x cs} h => by cases x; obtain ⟨_, kv, css, rfl, _⟩ := h; rfl⟩
/-- A node's cells: its ID, whether it is a group, its kids. -/
theorem rep_iff {I : Mem} {n : Nd} {cs : List Value} : rep I n cs ↔ I64 n.id ∧ ∃ kv, cs = [vi n.id, .bool n.grp, kv] ∧ LsAt Rp I n.kids kv := by
  cases n with | mk i g ks =>
  constructor
  · rintro ⟨h1, kv, css, h2, h3, h4⟩
    exact ⟨h1, kv, h2, css, h3, reps_all.1 h4⟩
  · rintro ⟨h1, kv, h2, css, h3, h4⟩
    exact ⟨h1, kv, css, h2, h3, reps_all.2 h4⟩
end Nd
end Go.Tr

/-
  Tree, the walks: the document's functions (1): sizes, heights, orders, what is found.
-/

namespace Go.Proofs.YtggcpoleklcmkaaGreatDoor
open Go.Sl Go.Ls Go.Tr
set_option maxRecDepth 100000
set_option maxHeartbeats 4000000
set_option linter.unusedVariables false
set_option linter.unusedSimpArgs false
attribute [local irreducible] WC WL WX WK WA WAK Val Ctr RunRes ResIs Rd At sl box pt Exit.then Exit.inBlock bodyPost Code.wp wpList
theorem kid_lt {nd : Nd} {N k : Nat} (hs : nd.size ≤ N + 1) (hk : k < nd.kids.length) : nd.kids[k].size ≤ N := by
  have := Nd.size_le_sizes (List.getElem_mem hk)
  cases nd with | mk i g ks =>
  simp only [Nd.size] at hs
  simp only [Nd.kids] at this
  show Nd.size (ks[k]'hk) ≤ N
  omega
theorem sizes_lt (nd : Nd) : nd.size = 1 + Nd.sizes nd.kids := by cases nd; rfl
theorem take1 {α : Type} (l : List α) (k : Nat) (h : k < l.length) : l.take (k + 1) = l.take k ++ [l[k]] := List.take_succ_eq_append_getElem h
def WhrP (r : Option (Int × Int)) : Value → Prop := fun v => (∃ p i, r = some (p, i) ∧ v = .tuple #[vi p, vi i, .bool true]) ∨ (r = none ∧ v = .tuple #[vi 0, vi 0, .bool false])
end Go.Proofs.YtggcpoleklcmkaaGreatDoor

/-
  Tree, the walks: the document's functions (2): orders, other kids, parts, joins.
-/

namespace Go.Tr
open Go.Sl Go.Ls
/-- A list of lists of nodes. -/
def Rl : Rep (List Nd) := fun I l cs => ∃ kv, cs = [kv] ∧ LsAt Nd.Rp I l kv
instance : RepMono Rl := ⟨fun ⟨kv, h1, h2⟩ hI => ⟨kv, h1, h2.mono hI⟩⟩
instance : RepLen Rl 1 := ⟨fun ⟨kv, h, _⟩ => by rw [h]; rfl⟩
theorem with_id (i : Int) (l : List Nd) (n : Nd) : (Nd.with_ i l n).id = n.id ∧ (Nd.with_ i l n).grp = n.grp := by cases n; exact ⟨rfl, rfl⟩
end Go.Tr
namespace Go.Proofs.YtggcpoleklcmkaaGreatDoor
open Go.Sl Go.Ls Go.Tr
set_option maxRecDepth 100000
set_option maxHeartbeats 4000000
set_option linter.unusedVariables false
set_option linter.unusedSimpArgs false
attribute [local irreducible] WC WL WX WK WA WAK Val Ctr RunRes ResIs Rd At sl box pt Exit.then Exit.inBlock bodyPost Code.wp wpList
theorem kid_sz {nd : Nd} {k : Nat} (hk : k < nd.kids.length) : nd.kids[k].size ≤ Nd.sizes nd.kids := Nd.size_le_sizes (List.getElem_mem hk)
end Go.Proofs.YtggcpoleklcmkaaGreatDoor

/-
  Tree, the walks: the document's functions (3): what may come in.
-/

namespace Go.Tr
open Go.Sl Go.Ls
namespace Nd
mutual
def wrong (top : Nd) : Nd → List Int → Int → Int × List Int
  | .mk i g ks, seen, d => if i < 1 ∨ 2147483648 < i then (30, []) else if (find i top).isSome = true then (32, []) else if i ∈ seen then (32, []) else if g = false ∧ 0 < ks.length then (33, []) else if 64 < d then (35, []) else wrongs top ks (seen ++ [i]) (d + 1)
def wrongs (top : Nd) : List Nd → List Int → Int → Int × List Int
  | [], seen, _ => (0, seen)
  | k :: ks, seen, d => if (wrong top k seen d).1 = 0 then wrongs top ks (wrong top k seen d).2 d else ((wrong top k seen d).1, [])
end
def fits (top n : Nd) (d : Int) : Int := if 65536 < (top.size : Int) - 1 + n.size then 36 else (wrong top n [] d).1
end Nd
end Go.Tr
namespace Go.Proofs.YtggcpoleklcmkaaGreatDoor
open Go.Sl Go.Ls Go.Tr
set_option maxRecDepth 100000
set_option maxHeartbeats 4000000
set_option linter.unusedVariables false
set_option linter.unusedSimpArgs false
attribute [local irreducible] WC WL WX WK WA WAK Val Ctr RunRes ResIs Rd At sl box pt Exit.then Exit.inBlock bodyPost Code.wp wpList
end Go.Proofs.YtggcpoleklcmkaaGreatDoor

/-
  Tree, the walks: the document's functions (4): fits, add.
-/

namespace Go.Proofs.YtggcpoleklcmkaaGreatDoor
open Go.Sl Go.Ls Go.Tr
set_option maxRecDepth 100000
set_option maxHeartbeats 4000000
set_option linter.unusedVariables false
set_option linter.unusedSimpArgs false
attribute [local irreducible] WC WL WX WK WA WAK Val Ctr RunRes ResIs Rd At sl box pt Exit.then Exit.inBlock bodyPost Code.wp wpList
end Go.Proofs.YtggcpoleklcmkaaGreatDoor

/-
  Tree, the walks: the document's functions (5): add.
-/

namespace Go.Tr
open Go.Sl Go.Ls
namespace Nd
theorem find_size (i : Int) : ∀ (n m : Nd), find i n = some m → m.size ≤ n.size := by
  intro n
  refine Nd.rec (motive_1 := fun n => ∀ m, find i n = some m → m.size ≤ n.size) (motive_2 := fun l => ∀ m, finds i l = some m → m.size ≤ sizes l) ?_ ?_ ?_ n
  · intro j g ks ih m h
    simp only [find] at h
    split at h
    · injection h with h; rw [← h]; exact Nat.le_refl _
    · have := ih m h
      simp only [size]; omega
  · intro m h; simp [finds] at h
  · intro k ks h1 h2 m h
    simp only [finds, sizes] at h ⊢
    cases hk : find i k with
    | some x => rw [hk] at h; injection h with h; subst h; have := h1 _ hk; omega
    | none => rw [hk] at h; have := h2 _ h; omega
/-- Add, as the document has it. -/
def add (top : Nd) (parent index : Int) (n : Nd) : Nd × Int :=
  match find parent top with
  | none => (top, 31)
  | some p => if p.grp = false then (top, 33) else if index < 0 ∨ (p.kids.length : Int) < index then (top, 30)
    else if fits top n (depth parent top + 1) ≠ 0 then (top, fits top n (depth parent top + 1))
    else (with_ parent (p.kids.take index.toNat ++ (n :: p.kids.drop index.toNat)) top, 0)
end Nd
end Go.Tr
namespace Go.Proofs.YtggcpoleklcmkaaGreatDoor
open Go.Sl Go.Ls Go.Tr
set_option maxRecDepth 100000
set_option maxHeartbeats 4000000
set_option linter.unusedVariables false
set_option linter.unusedSimpArgs false
attribute [local irreducible] WC WL WX WK WA WAK Val Ctr RunRes ResIs Rd At sl box pt Exit.then Exit.inBlock bodyPost Code.wp wpList
end Go.Proofs.YtggcpoleklcmkaaGreatDoor

/-
  Tree, the walks: the document's functions (6): remove.
-/

namespace Go.Tr
open Go.Sl Go.Ls
namespace Nd
def zero : Nd := .mk 0 false []
/-- Remove, as the document has it. -/
def remove (top : Nd) (i : Int) : Nd × Nd × Int × Int × Int :=
  if i = 0 then (top, zero, 0, 0, 30) else match find i top with
  | none => (top, zero, 0, 0, 31)
  | some n => match whr i top with
    | none => (top, zero, 0, 0, 0)
    | some (q, k) => match find q top with
      | none => (top, zero, 0, 0, 0)
      | some p => (with_ q (p.kids.take k.toNat ++ p.kids.drop (k.toNat + 1)) top, n, q, k, 0)
/-- What is asked of a tree, so that what is removed has a parent. -/
def Has (top : Nd) (i : Int) : Prop := i ≠ 0 → ∀ n, find i top = some n → ∃ q, ∃ k : Nat, ∃ m, whr i top = some (q, (k : Int)) ∧ find q top = some m ∧ k < m.kids.length
end Nd
end Go.Tr
namespace Go.Proofs.YtggcpoleklcmkaaGreatDoor
open Go.Sl Go.Ls Go.Tr
set_option maxRecDepth 100000
set_option maxHeartbeats 4000000
set_option linter.unusedVariables false
set_option linter.unusedSimpArgs false
attribute [local irreducible] WC WL WX WK WA WAK Val Ctr RunRes ResIs Rd At sl box pt Exit.then Exit.inBlock bodyPost Code.wp wpList
theorem i64_0 : I64 0 := ⟨by decide, by decide⟩
end Go.Proofs.YtggcpoleklcmkaaGreatDoor

/-
  Tree, the walks: the document's functions (7): move.
-/

namespace Go.Tr
open Go.Sl Go.Ls
namespace Nd
/-- Move, as the document has it. -/
def move (top : Nd) (i parent index : Int) : Nd × Int :=
  if (remove top i).2.2.2.2 ≠ 0 then (top, (remove top i).2.2.2.2) else match find parent top with
  | none => (top, 31)
  | some p => if p.grp = false then (top, 33) else if (find parent (remove top i).2.1).isSome = true then (top, 34)
    else if index < 0 ∨ (((find parent (remove top i).1).getD zero).kids.length : Int) < index then (top, 30)
    else if 64 < depth parent (remove top i).1 + (remove top i).2.1.height then (top, 35)
    else (with_ parent (((find parent (remove top i).1).getD zero).kids.take index.toNat ++ ((remove top i).2.1 :: ((find parent (remove top i).1).getD zero).kids.drop index.toNat)) (remove top i).1, 0)
end Nd
end Go.Tr
namespace Go.Proofs.YtggcpoleklcmkaaGreatDoor
open Go.Sl Go.Ls Go.Tr
set_option maxRecDepth 100000
set_option maxHeartbeats 4000000
set_option linter.unusedVariables false
set_option linter.unusedSimpArgs false
attribute [local irreducible] WC WL WX WK WA WAK Val Ctr RunRes ResIs Rd At sl box pt Exit.then Exit.inBlock bodyPost Code.wp wpList
end Go.Proofs.YtggcpoleklcmkaaGreatDoor

/-
  Tree, the walks: the document's functions (8): wrap.
-/

namespace Go.Tr
open Go.Sl Go.Ls
namespace Nd
/-- Wrap, as the document has it. -/
def wrap (top : Nd) (i parent index count : Int) : Nd × Int :=
  match find parent top with
  | none => (top, 31)
  | some p => if p.grp = false then (top, 33)
    else if index < 0 ∨ count < 0 ∨ (p.kids.length : Int) < index ∨ (p.kids.length : Int) - index < count then (top, 30)
    else if fits top (mk i true []) (depth parent top + 1) ≠ 0 then (top, fits top (mk i true []) (depth parent top + 1))
    else if 64 < depth parent top + 1 + (mk i true ((p.kids.drop index.toNat).take count.toNat)).height - 1 then (top, 35)
    else (with_ parent (p.kids.take index.toNat ++ (mk i true ((p.kids.drop index.toNat).take count.toNat) :: p.kids.drop (index.toNat + count.toNat))) top, 0)
end Nd
end Go.Tr
namespace Go.Proofs.YtggcpoleklcmkaaGreatDoor
open Go.Sl Go.Ls Go.Tr
set_option maxRecDepth 100000
set_option maxHeartbeats 4000000
set_option linter.unusedVariables false
set_option linter.unusedSimpArgs false
attribute [local irreducible] WC WL WX WK WA WAK Val Ctr RunRes ResIs Rd At sl box pt Exit.then Exit.inBlock bodyPost Code.wp wpList
end Go.Proofs.YtggcpoleklcmkaaGreatDoor

/-
  Tree, the walks: the document's functions (9): unwrap.
-/

namespace Go.Tr
open Go.Sl Go.Ls
namespace Nd
/-- Unwrap, as the document has it. -/
def unwrap (top : Nd) (i : Int) : Nd × Int × Int × Int × Int :=
  if (remove top i).2.2.2.2 ≠ 0 then (top, 0, 0, 0, (remove top i).2.2.2.2)
  else if (remove top i).2.1.grp = false then (top, 0, 0, 0, 33)
  else (with_ (remove top i).2.2.1 (((find (remove top i).2.2.1 top).getD zero).kids.take (remove top i).2.2.2.1.toNat ++ ((remove top i).2.1.kids ++ ((find (remove top i).2.2.1 top).getD zero).kids.drop ((remove top i).2.2.2.1.toNat + 1))) top, (remove top i).2.2.1, (remove top i).2.2.2.1, (remove top i).2.1.kids.length, 0)
theorem remove_ok (top : Nd) (i : Int) (h : Has top i) (h0 : (remove top i).2.2.2.2 = 0) : ∃ k : Nat, ∃ p, (remove top i).2.2.2.1 = (k : Int) ∧ find (remove top i).2.2.1 top = some p ∧ k < p.kids.length := by
  by_cases hi : i = 0
  · rw [remove, if_pos hi] at h0; exact absurd h0 (by show ¬ (30 : Int) = 0; decide)
  cases hf : find i top with
  | none => rw [remove, if_neg hi, hf] at h0; exact absurd h0 (by show ¬ (31 : Int) = 0; decide)
  | some n =>
    obtain ⟨q, k, m, h1, h2, h3⟩ := h hi n hf
    have hr : remove top i = (with_ q (m.kids.take k ++ m.kids.drop (k + 1)) top, n, q, (k : Int), 0) := by
      rw [remove, if_neg hi, hf]
      simp only [h1, h2, Int.toNat_natCast]
    rw [hr]
    exact ⟨k, m, rfl, h2, h3⟩
end Nd
end Go.Tr
namespace Go.Proofs.YtggcpoleklcmkaaGreatDoor
open Go.Sl Go.Ls Go.Tr
set_option maxRecDepth 100000
set_option maxHeartbeats 4000000
set_option linter.unusedVariables false
set_option linter.unusedSimpArgs false
attribute [local irreducible] WC WL WX WK WA WAK Val Ctr RunRes ResIs Rd At sl box pt Exit.then Exit.inBlock bodyPost Code.wp wpList
end Go.Proofs.YtggcpoleklcmkaaGreatDoor

/-
  Tree, the walks: the law's functions (1): ref, same.
-/

namespace Go.Tr
open Go.Sl Go.Ls
end Go.Tr
namespace Go.Proofs.YtggcpoleklcmkaaGreatDoor
open Go.Sl Go.Ls Go.Tr
set_option maxRecDepth 100000
set_option maxHeartbeats 4000000
set_option linter.unusedVariables false
set_option linter.unusedSimpArgs false
attribute [local irreducible] WC WL WX WK WA WAK Val Ctr RunRes ResIs Rd At sl box pt Exit.then Exit.inBlock bodyPost Code.wp wpList
end Go.Proofs.YtggcpoleklcmkaaGreatDoor

/-
  Tree, the walks: the law's functions (2): small, build.
-/

namespace Go.Tr
open Go.Sl Go.Ls
structure Pl where
  id : Int
  grp : Bool
  kids : Int
def Pl.rep : Rep Pl := fun _ p cs => cs = [vi p.id, .bool p.grp, vi p.kids] ∧ I64 p.id ∧ I64 p.kids
instance : RepMono Pl.rep := ⟨fun h _ => h⟩
instance : RepLen Pl.rep 3 := ⟨fun h => by rw [h.1]; rfl⟩
structure Opn where
  kind : Int
  id : Int
  parent : Int
  index : Int
  count : Int
  nodes : List Pl
def Opn.rep : Rep Opn := fun I o cs => ∃ nv, cs = [vi o.kind, vi o.id, vi o.parent, vi o.index, vi o.count, nv] ∧ I64 o.kind ∧ I64 o.id ∧ I64 o.parent ∧ I64 o.index ∧ I64 o.count ∧ LsAt Pl.rep I o.nodes nv
instance : RepMono Opn.rep := ⟨fun ⟨nv, h, h1, h2, h3, h4, h5, h6⟩ hI => ⟨nv, h, h1, h2, h3, h4, h5, h6.mono hI⟩⟩
instance : RepLen Opn.rep 6 := ⟨fun ⟨nv, h, _⟩ => by rw [h]; rfl⟩
end Go.Tr
namespace Go.Proofs.YtggcpoleklcmkaaGreatDoor
open Go.Sl Go.Ls Go.Tr
set_option maxRecDepth 100000
set_option maxHeartbeats 4000000
set_option linter.unusedVariables false
set_option linter.unusedSimpArgs false
attribute [local irreducible] WC WL WX WK WA WAK Val Ctr RunRes ResIs Rd At sl box pt Exit.then Exit.inBlock bodyPost Code.wp wpList
end Go.Proofs.YtggcpoleklcmkaaGreatDoor

/-
  Tree, the program's: the arena, and what reads it.
-/

namespace Go.Tr
open Go.Sl Go.Ls
structure Cel where
  id : Int
  grp : Bool
  par : Int
  kids : List Int
  kv : Value
/-- A tree of the program: where it lies, its cells, what is free, where IDs are. -/
structure Ar where
  b : Nat
  mb : Nat
  cg : Nat
  cc : Nat
  cells : List Cel
  fv : Value
  free : List Int
  at_ : Int → Option Int
  cnt : Nat
def Cel.cs (c : Cel) : List Value := [vi c.id, .bool c.grp, vi c.par, c.kv]
def Cel.row (c : Cel) : HP := sl 3 1 c.kv c.kids.length (c.kids.map vi)
def Ar.flat (A : Ar) : List Value := (A.cells.map Cel.cs).flatten
def Ar.look (A : Ar) : Int → Option Value := fun k => (A.at_ k).map vi
abbrev Ar.cv (A : Ar) : Value := .slice (some ⟨A.cg, 0, none⟩) A.cells.length A.cc
abbrev Ar.hp (A : Ar) : List HP := [box A.b 145 [A.cv, A.fv, .map (some A.mb)], sl 191 4 A.cv A.cells.length A.flat, sl 3 1 A.fv A.free.length (A.free.map vi), mp A.mb A.look A.cnt, sts (A.cells.map Cel.row)]
abbrev Ar.on (A : Ar) (L : List HP) : List HP := box A.b 145 [A.cv, A.fv, .map (some A.mb)] :: sl 191 4 A.cv A.cells.length A.flat :: sl 3 1 A.fv A.free.length (A.free.map vi) :: mp A.mb A.look A.cnt :: sts (A.cells.map Cel.row) :: L
theorem Ar.at {A : Ar} {i : Nat} (hi : i < A.cells.length) (f : Nat) (hf : f < 4) : A.flat[0 + ((i : Nat) : Int).toNat * 4 + f]? = (A.cells[i]).cs[f]? := by
  have h : ∀ c ∈ A.cells.map Cel.cs, c.length = 4 := fun c hc => by
    obtain ⟨x, _, rfl⟩ := List.mem_map.1 hc; rfl
  rw [Nat.zero_add, Int.toNat_natCast, Ar.flat, flat_at (by decide) _ h i f hf]
  simp [hi]
theorem Ar.c0 {A : Ar} {i : Nat} (hi : i < A.cells.length) : A.flat[0 + ((i : Nat) : Int).toNat * 4]? = some (vi (A.cells[i]).id) := Ar.at hi 0 (by decide)
theorem Ar.c1 {A : Ar} {i : Nat} (hi : i < A.cells.length) : A.flat[0 + ((i : Nat) : Int).toNat * 4 + 1]? = some (.bool (A.cells[i]).grp) := Ar.at hi 1 (by decide)
theorem Ar.c2 {A : Ar} {i : Nat} (hi : i < A.cells.length) : A.flat[0 + ((i : Nat) : Int).toNat * 4 + 2]? = some (vi (A.cells[i]).par) := Ar.at hi 2 (by decide)
theorem Ar.c3 {A : Ar} {i : Nat} (hi : i < A.cells.length) : A.flat[0 + ((i : Nat) : Int).toNat * 4 + 3]? = some (A.cells[i]).kv := Ar.at hi 3 (by decide)
end Go.Tr
namespace Go.Proofs.YtggcpoleklcmkaaGreatDoor
open Go.Sl Go.Ls Go.Tr
set_option maxRecDepth 100000
set_option maxHeartbeats 4000000
set_option linter.unusedVariables false
set_option linter.unusedSimpArgs false
instance : MapK Tryz.prog 143 (vi 0) := ⟨by kernel_rfl⟩
attribute [local irreducible] WC WL WX WK WA WAK Val Ctr RunRes ResIs Rd At sl box pt Exit.then Exit.inBlock bodyPost Code.wp wpList
theorem tFind (A : Ar) (i : Int) (I : Mem) :
    Ctr Tryz.prog 78 [ptr A.b, vi i] I A.hp (Keep I A.hp fun v => v = .tuple #[vi ((A.at_ i).getD 0), .bool (A.at_ i).isSome]) := by
  refine Ctr.intro Tryz.func78 rfl rfl rfl fun E F => ?_
  refine WC.seq ?_
  refine WC.region ?_
  refine WL.val (Val.assignI rfl) rfl ?_
  refine WL.val (Val.assignB rfl) rfl ?_
  refine WL.nil ?_
  refine WX.thenC ?_
  refine WC.seq ?_
  refine WC.region ?_
  refine WL.val (Val.moveP rfl) rfl ?_
  refine WL.val (Val.nilCheckP rfl) rfl ?_
  refine WL.val (Val.fldAddr rfl) rfl ?_
  refine WL.val (Val.loadS rfl (Rd.own1 1 rfl rfl)) rfl ?_
  refine WL.val (Val.moveI rfl) rfl ?_
  refine WL.val (Val.lookup2 4 rfl rfl rfl) rfl ?_
  have he : ((A.look i).getD (vi 0) = vi ((A.at_ i).getD 0)) ∧ (A.look i).isSome = (A.at_ i).isSome := by
    unfold Ar.look
    cases A.at_ i <;> exact ⟨rfl, rfl⟩
  rw [he.1, he.2]
  refine WL.val (Val.moveT rfl) rfl ?_
  refine WL.val (Val.extractI rfl rfl) rfl ?_
  refine WL.val (Val.extractB rfl rfl) rfl ?_
  refine WL.val (Val.assignI rfl) rfl ?_
  refine WL.val (Val.assignB rfl) rfl ?_
  refine WL.nil ?_
  refine WX.thenC ?_
  refine WC.seq ?_
  refine WC.region ?_
  refine WL.val (Val.moveI rfl) rfl ?_
  refine WL.val (Val.moveB rfl) rfl ?_
  refine WL.val (Val.assignI rfl) rfl ?_
  refine WL.val (Val.assignB rfl) rfl ?_
  refine WL.nil ?_
  refine WX.thenC ?_
  refine WC.ret ?_
  apply WX.doneP (ks := [0, 0, 0, 0, 0])
  case hres => exact RunRes.r2 rfl (ResIs.tmpI rfl) (ResIs.tmpB rfl)
  case hI => first | exact Mem.le.refl _ | assumption
  exact ⟨rfl, rfl, rfl⟩
end Go.Proofs.YtggcpoleklcmkaaGreatDoor

/-
  Tree, the program's: what reads the arena (1).
-/

namespace Go.Tr
open Go.Sl Go.Ls
/-- What holds of any arena, as bounds. -/
structure Ar.Ok (A : Ar) : Prop where
  len : A.cells.length ≤ 1000000000
  at_lt : ∀ i p, A.at_ i = some p → ∃ n : Nat, p = n ∧ n < A.cells.length
  par : ∀ c ∈ A.cells, I64 c.par
  id : ∀ c ∈ A.cells, I64 c.id
  kidl : ∀ c ∈ A.cells, c.kids.length ≤ 1000000000
/-- The cells from one up to the root. -/
inductive Ch (A : Ar) : Nat → List Nat → Prop where
  | top {i : Nat} (hi : i < A.cells.length) (h : (A.cells[i]).par < 0) : Ch A i [i]
  | up {i p : Nat} {l : List Nat} (hi : i < A.cells.length) (h : (A.cells[i]).par = (p : Int)) (hl : Ch A p l) : Ch A i (i :: l)
def Ar.grp (A : Ar) (i : Int) : Int × Int :=
  match A.at_ i with
  | none => (0, 31)
  | some p => if ((A.cells[p.toNat]?).map Cel.grp).getD false then (p, 0) else (0, 33)
end Go.Tr
namespace Go.Proofs.YtggcpoleklcmkaaGreatDoor
open Go.Sl Go.Ls Go.Tr
set_option maxRecDepth 100000
set_option maxHeartbeats 4000000
set_option linter.unusedVariables false
set_option linter.unusedSimpArgs false
attribute [local irreducible] WC WL WX WK WA WAK Val Ctr RunRes ResIs Rd At sl box pt Exit.then Exit.inBlock bodyPost Code.wp wpList
theorem tCount (A : Ar) (I : Mem) (hc : A.cnt ≤ 1000000000) :
    Ctr Tryz.prog 30 [ptr A.b] I A.hp (Keep I A.hp fun v => v = vi ((A.cnt : Int) - 1)) := by
  refine Ctr.intro Tryz.func30 rfl rfl rfl fun E F => ?_
  refine WC.seq ?_
  refine WC.region ?_
  refine WL.val (Val.assignI rfl) rfl ?_
  refine WL.nil ?_
  refine WX.thenC ?_
  refine WC.seq ?_
  refine WC.region ?_
  refine WL.val (Val.moveP rfl) rfl ?_
  refine WL.val (Val.nilCheckP rfl) rfl ?_
  refine WL.val (Val.fldAddr rfl) rfl ?_
  refine WL.val (Val.loadS rfl (Rd.own1 1 rfl rfl)) rfl ?_
  refine WL.val (Val.lenMap 4 rfl rfl) rfl ?_
  refine WL.val (Val.sub rfl rfl (wrap_i64 (by omega) (by omega))) rfl ?_
  refine WL.val (Val.assignI rfl) rfl ?_
  refine WL.nil ?_
  refine WX.thenC ?_
  refine WC.ret ?_
  apply WX.doneP (ks := [0, 0, 0, 0, 0])
  case hres => exact RunRes.r1 rfl (ResIs.tmpI rfl)
  case hI => first | exact Mem.le.refl _ | assumption
  exact ⟨rfl, rfl, rfl⟩
theorem tGroup (A : Ar) (i : Int) (I : Mem) (hA : A.Ok) :
    Ctr Tryz.prog 140 [ptr A.b, vi i] I A.hp (Keep I A.hp fun v => v = .tuple #[vi (A.grp i).1, vi (A.grp i).2]) := by
  refine Ctr.intro Tryz.func140 rfl rfl rfl fun E F => ?_
  refine WC.seq ?_
  refine WC.region ?_
  refine WL.val (Val.assignI rfl) rfl ?_
  refine WL.val (Val.assignI rfl) rfl ?_
  refine WL.nil ?_
  refine WX.thenC ?_
  refine WC.seq ?_
  refine WC.region ?_
  refine WL.val (Val.moveP rfl) rfl ?_
  refine WL.val (Val.moveI rfl) rfl ?_
  refine WL.callK [1, 1, 1, 1, 1] rfl rfl rfl (tFind A i _) rfl ?_
  rintro _ rfl
  cases hat : A.at_ i with
  | none =>
    refine WL.val (Val.moveT rfl) rfl ?_
    refine WL.val (Val.extractI rfl rfl) rfl ?_
    refine WL.val (Val.extractB rfl rfl) rfl ?_
    refine WL.val (Val.assignI rfl) rfl ?_
    refine WL.val (Val.assignB rfl) rfl ?_
    refine WL.nil ?_
    refine WX.thenC ?_
    refine WC.seq ?_
    refine WC.block ?_
    refine WC.seq ?_
    refine WC.region ?_
    refine WL.val (Val.moveB rfl) rfl ?_
    refine WL.val (Val.not rfl) rfl ?_
    refine WL.val (Val.assignB rfl) rfl ?_
    refine WL.nil ?_
    refine WX.thenC ?_
    refine WC.condT rfl ?_
    refine WC.seq ?_
    refine WC.region ?_
    refine WL.val (Val.assignI rfl) rfl ?_
    refine WL.val (Val.assignI rfl) rfl ?_
    refine WL.nil ?_
    refine WX.thenC ?_
    refine WC.ret ?_
    refine WX.inRet ?_
    refine WX.thenRet ?_
    apply WX.doneP (ks := [0, 0, 0, 0, 0])
    case hres => exact RunRes.r2 rfl (ResIs.tmpI rfl) (ResIs.tmpI rfl)
    case hI => first | exact Mem.le.refl _ | assumption
    exact ⟨rfl, rfl, by rw [Ar.grp, hat]⟩
  | some p =>
    obtain ⟨n, rfl, hn⟩ := hA.at_lt i p hat
    have h1 := Ar.c1 hn
    simp only [Option.getD_some, Option.isSome_some]
    cases hg : (A.cells[n]).grp
    · rw [hg] at h1
      have hr : A.grp i = (0, 33) := by
        simp only [Ar.grp, hat, Int.toNat_natCast, List.getElem?_eq_getElem hn, Option.map_some, hg, Option.getD_some, Bool.false_eq_true, if_false]
      refine WL.val (Val.moveT rfl) rfl ?_
      refine WL.val (Val.extractI rfl rfl) rfl ?_
      refine WL.val (Val.extractB rfl rfl) rfl ?_
      refine WL.val (Val.assignI rfl) rfl ?_
      refine WL.val (Val.assignB rfl) rfl ?_
      refine WL.nil ?_
      refine WX.thenC ?_
      refine WC.seq ?_
      refine WC.block ?_
      refine WC.seq ?_
      refine WC.region ?_
      refine WL.val (Val.moveB rfl) rfl ?_
      refine WL.val (Val.not rfl) rfl ?_
      refine WL.val (Val.assignB rfl) rfl ?_
      refine WL.nil ?_
      refine WX.thenC ?_
      refine WC.condF rfl ?_
      refine WC.seq ?_
      refine WC.region ?_
      refine WL.val (Val.moveP rfl) rfl ?_
      refine WL.val (Val.nilCheckP rfl) rfl ?_
      refine WL.val (Val.fldAddr rfl) rfl ?_
      refine WL.val (Val.loadS rfl (Rd.own1 1 rfl rfl)) rfl ?_
      refine WL.val (Val.moveI rfl) rfl ?_
      refine WL.val (Val.indexAddr rfl rfl (by omega) (by omega)) rfl ?_
      refine WL.val (Val.fldAddr rfl) rfl ?_
      refine WL.val (Val.loadS rfl (Rd.sl1 2 rfl (by assumption))) rfl ?_
      refine WL.val (Val.not rfl) rfl ?_
      refine WL.val (Val.assignB rfl) rfl ?_
      refine WL.nil ?_
      refine WX.thenC ?_
      refine WC.condT rfl ?_
      refine WC.seq ?_
      refine WC.region ?_
      refine WL.val (Val.assignI rfl) rfl ?_
      refine WL.val (Val.assignI rfl) rfl ?_
      refine WL.nil ?_
      refine WX.thenC ?_
      refine WC.ret ?_
      refine WX.inRet ?_
      refine WX.thenRet ?_
      apply WX.doneP (ks := [0, 0, 0, 0, 0])
      case hres => exact RunRes.r2 rfl (ResIs.tmpI rfl) (ResIs.tmpI rfl)
      case hI => first | exact Mem.le.refl _ | assumption
      exact ⟨rfl, rfl, by rw [hr]⟩
    · rw [hg] at h1
      have hr : A.grp i = ((n : Int), 0) := by
        simp only [Ar.grp, hat, Int.toNat_natCast, List.getElem?_eq_getElem hn, Option.map_some, hg, Option.getD_some, if_true]
      refine WL.val (Val.moveT rfl) rfl ?_
      refine WL.val (Val.extractI rfl rfl) rfl ?_
      refine WL.val (Val.extractB rfl rfl) rfl ?_
      refine WL.val (Val.assignI rfl) rfl ?_
      refine WL.val (Val.assignB rfl) rfl ?_
      refine WL.nil ?_
      refine WX.thenC ?_
      refine WC.seq ?_
      refine WC.block ?_
      refine WC.seq ?_
      refine WC.region ?_
      refine WL.val (Val.moveB rfl) rfl ?_
      refine WL.val (Val.not rfl) rfl ?_
      refine WL.val (Val.assignB rfl) rfl ?_
      refine WL.nil ?_
      refine WX.thenC ?_
      refine WC.condF rfl ?_
      refine WC.seq ?_
      refine WC.region ?_
      refine WL.val (Val.moveP rfl) rfl ?_
      refine WL.val (Val.nilCheckP rfl) rfl ?_
      refine WL.val (Val.fldAddr rfl) rfl ?_
      refine WL.val (Val.loadS rfl (Rd.own1 1 rfl rfl)) rfl ?_
      refine WL.val (Val.moveI rfl) rfl ?_
      refine WL.val (Val.indexAddr rfl rfl (by omega) (by omega)) rfl ?_
      refine WL.val (Val.fldAddr rfl) rfl ?_
      refine WL.val (Val.loadS rfl (Rd.sl1 2 rfl (by assumption))) rfl ?_
      refine WL.val (Val.not rfl) rfl ?_
      refine WL.val (Val.assignB rfl) rfl ?_
      refine WL.nil ?_
      refine WX.thenC ?_
      refine WC.condF rfl ?_
      refine WC.skip ?_
      refine WX.inNormal ?_
      refine WX.thenC ?_
      refine WC.seq ?_
      refine WC.region ?_
      refine WL.val (Val.moveI rfl) rfl ?_
      refine WL.val (Val.assignI rfl) rfl ?_
      refine WL.val (Val.assignI rfl) rfl ?_
      refine WL.nil ?_
      refine WX.thenC ?_
      refine WC.ret ?_
      apply WX.doneP (ks := [0, 0, 0, 0, 0])
      case hres => exact RunRes.r2 rfl (ResIs.tmpI rfl) (ResIs.tmpI rfl)
      case hI => first | exact Mem.le.refl _ | assumption
      exact ⟨rfl, rfl, by rw [hr]⟩
theorem tDepthP (A : Ar) (i : Nat) (l : List Nat) (I : Mem) (hA : A.Ok) (hl : Ch A i l) (hll : l.length ≤ 1000000000) :
    Ctr Tryz.prog 142 [ptr A.b, vi i] I A.hp (Keep I A.hp fun v => v = vi ((l.length : Int) - 1)) := by
  refine Ctr.intro Tryz.func142 rfl rfl rfl fun E F => ?_
  refine WC.seq ?_
  refine WC.region ?_
  refine WL.val (Val.assignI rfl) rfl ?_
  refine WL.nil ?_
  refine WX.thenC ?_
  refine WC.seq ?_
  refine WC.region ?_
  refine WL.val (Val.assignI rfl) rfl ?_
  refine WL.nil ?_
  refine WX.thenC ?_
  refine WC.seq ?_
  refine WC.block ?_
  refine WC.loop (fun n ρ' I' L' => ∃ (j m : Nat) (r : List Nat), n = r.length ∧ Ch A j r ∧ m + r.length = l.length ∧ I' = I ∧ ρ' 0 = ptr A.b ∧ ρ' 1 = vi j ∧ ρ' 5 = vi m ∧ L' = F :: A.hp)
    l.length ⟨i, 0, l, rfl, hl, by omega, rfl, rfl, rfl, rfl, rfl⟩ ?_
  rintro n ρ' I0 L' ⟨j, m, r, rfl, hr, hm, rfl, h0, h1, h5, rfl⟩
  rw [← upd_self h5, ← upd_self h1, ← upd_self h0]
  clear h5 h1 h0
  cases hr with
  | top hj hp =>
    have hc := Ar.c2 hj
    refine WC.seq ?_
    refine WC.seq ?_
    refine WC.region ?_
    refine WL.val (Val.moveP rfl) rfl ?_
    refine WL.val (Val.nilCheckP rfl) rfl ?_
    refine WL.val (Val.fldAddr rfl) rfl ?_
    refine WL.val (Val.loadS rfl (Rd.own1 1 rfl rfl)) rfl ?_
    refine WL.val (Val.moveI rfl) rfl ?_
    refine WL.val (Val.indexAddr rfl rfl (by omega) (by omega)) rfl ?_
    refine WL.val (Val.fldAddr rfl) rfl ?_
    refine WL.val (Val.loadS rfl (Rd.sl1 2 rfl (by assumption))) rfl ?_
    refine WL.val (Val.geq rfl rfl (decide_eq_false (by omega))) rfl ?_
    refine WL.nil ?_
    refine WX.thenC ?_
    refine WC.condF rfl ?_
    refine WC.exit ?_
    refine WX.thenExit ?_
    refine WX.thenExit ?_
    refine WX.inHit ?_
    refine WX.thenC ?_
    refine WC.seq ?_
    refine WC.region ?_
    refine WL.val (Val.moveI rfl) rfl ?_
    refine WL.val (Val.assignI rfl) rfl ?_
    refine WL.nil ?_
    refine WX.thenC ?_
    refine WC.ret ?_
    apply WX.doneP (ks := [0, 0, 0, 0, 0])
    case hres => exact RunRes.r1 rfl (ResIs.tmpI rfl)
    case hI => first | exact Mem.le.refl _ | assumption
    refine ⟨rfl, rfl, ?_⟩
    congr 1
    simp only [List.length_cons, List.length_nil] at hm
    omega
  | up hj hp hr =>
    rename_i p r
    have hc := Ar.c2 hj
    rw [hp] at hc
    simp only [List.length_cons] at hm
    refine WC.seq ?_
    refine WC.seq ?_
    refine WC.region ?_
    refine WL.val (Val.moveP rfl) rfl ?_
    refine WL.val (Val.nilCheckP rfl) rfl ?_
    refine WL.val (Val.fldAddr rfl) rfl ?_
    refine WL.val (Val.loadS rfl (Rd.own1 1 rfl rfl)) rfl ?_
    refine WL.val (Val.moveI rfl) rfl ?_
    refine WL.val (Val.indexAddr rfl rfl (by omega) (by omega)) rfl ?_
    refine WL.val (Val.fldAddr rfl) rfl ?_
    refine WL.val (Val.loadS rfl (Rd.sl1 2 rfl (by assumption))) rfl ?_
    refine WL.val (Val.geq rfl rfl (decide_eq_true (by omega))) rfl ?_
    refine WL.nil ?_
    refine WX.thenC ?_
    refine WC.condT rfl ?_
    refine WC.skip ?_
    refine WX.thenC ?_
    refine WC.seq ?_
    refine WC.block ?_
    refine WC.region ?_
    refine WL.val (Val.moveI rfl) rfl ?_
    refine WL.val (Val.add rfl rfl (wrap_i64 (by omega) (by omega))) rfl ?_
    refine WL.val (Val.assignI rfl) rfl ?_
    refine WL.nil ?_
    refine WX.inNormal ?_
    refine WX.thenC ?_
    refine WC.region ?_
    refine WL.val (Val.moveP rfl) rfl ?_
    refine WL.val (Val.nilCheckP rfl) rfl ?_
    refine WL.val (Val.fldAddr rfl) rfl ?_
    refine WL.val (Val.loadS rfl (Rd.own1 1 rfl rfl)) rfl ?_
    refine WL.val (Val.moveI rfl) rfl ?_
    refine WL.val (Val.indexAddr rfl rfl (by omega) (by omega)) rfl ?_
    refine WL.val (Val.fldAddr rfl) rfl ?_
    refine WL.val (Val.loadS rfl (Rd.sl1 2 rfl (by assumption))) rfl ?_
    refine WL.val (Val.assignI rfl) rfl ?_
    refine WL.nil ?_
    refine WX.thenK (WK.round r.length (by simp) ⟨p, m + 1, r, rfl, hr, by omega, rfl, rfl, rfl, rfl, rfl⟩)
end Go.Proofs.YtggcpoleklcmkaaGreatDoor
