/-
 Tree, the program's: drop.
-/
import Derived.Test.YtggcpoleklcmkaaGreatDoorX2
import Derived.Test.YtggcpoleklcmkaaGreatDoorX5
import Derived.Test.YtggcpoleklcmkaaGreatDoorX3
set_option linter.unusedVariables false
set_option linter.unusedSimpArgs false
set_option maxRecDepth 100000
set_option maxHeartbeats 8000000
namespace Go.Tr
open Go.Sl Go.Ls
theorem Ar.drop1_hp (A : Ar) (i : Nat) (fv : Value) (hi : i < A.cells.length) : (A.drop1 i fv).hp = [box A.b 145 [A.cv, fv, .map (some A.mb)], sl 191 4 A.cv A.cells.length (splice A.flat (0 + (i : Int).toNat * 4) [vi 0, .bool false, vi 0, .slice none 0 0]),
  sl 3 1 fv (A.free ++ [(i : Int)]).length ((A.free ++ [(i : Int)]).map vi), mp A.mb (Sl.del A.look (A.cells[i]).id) (if (A.look (A.cells[i]).id).isSome then A.cnt - 1 else A.cnt), sts ((A.cells.map Cel.row).set i (sl 3 1 (.slice none 0 0) 0 []))] := by
 have hset : A.cells.modify i (fun _ => zeroCel) = A.cells.set i zeroCel := modify_set hi _
 have e1 : (A.drop1 i fv).cells.length = A.cells.length := by simp [Ar.drop1]
 have e2 : (A.drop1 i fv).flat = splice A.flat (0 + (i : Int).toNat * 4) [vi 0, .bool false, vi 0, .slice none 0 0] := by
  have := flat_splice (by decide) (A.cells.map Cel.cs) A.flat_len i 0 [vi 0, .bool false, vi 0, .slice none 0 0] (by simpa using hi) (by simp)
  rw [Nat.zero_add, Int.toNat_natCast]
  rw [Nat.add_zero] at this
  rw [Ar.flat, Ar.flat, this, Ar.drop1, hset, List.map_set, List.getElem_map]
  rfl
 have e3 : (A.drop1 i fv).cells.map Cel.row = (A.cells.map Cel.row).set i (sl 3 1 (.slice none 0 0) 0 []) := by
  rw [Ar.drop1, hset, List.map_set]; rfl
 have hid : ((A.cells[i]?).map Cel.id).getD 0 = (A.cells[i]).id := by simp [hi]
 have e4 : (A.drop1 i fv).look = Sl.del A.look (A.cells[i]).id := by
  funext k
  simp only [Ar.look, Ar.drop1, Sl.del, hid]
  by_cases hk : k = (A.cells[i]).id
  ·rw [if_pos hk, if_pos hk]; rfl
  ·rw [if_neg hk, if_neg hk]
 have e5 : (A.drop1 i fv).cnt = if (A.look (A.cells[i]).id).isSome then A.cnt - 1 else A.cnt := by
  simp only [Ar.drop1, Ar.look, hid, Option.isSome_map]
 simp only [Ar.hp, Ar.cv, e1, e2, e3, e4, e5]
 rfl
structure Drops (A A' : Ar) (l : List Nat) (ids : List Int) : Prop where
 d : Dropped A A' l
 at_ : ∀ k, A'.at_ k = if k ∈ ids then none else A.at_ k
 cnt : A'.cnt + ids.length = A.cnt
theorem Drops.refl (A : Ar) : Drops A A [] [] := ⟨Dropped.refl A, fun k => by simp, by simp⟩
theorem Drops.trans {A B C : Ar} {l r : List Nat} {s t : List Int} (h : Drops A B l s) (k : Drops B C r t) : Drops A C (l ++ r) (s ++ t) := by
 refine ⟨h.d.trans k.d, fun x => ?_, by rw [List.length_append]; have := h.cnt; have := k.cnt; omega⟩
 rw [k.at_, h.at_]
 by_cases h1 : x ∈ s <;> by_cases h2 : x ∈ t <;> simp [h1, h2]
theorem Nd.orders_len : ∀ l : List Nd, (Nd.orders l).length = Nd.sizes l
 | [] => rfl
 | k :: l => by simp only [Nd.orders, Nd.sizes, List.length_append, Nd.order_len, Nd.orders_len l]
theorem Drops.congr {A B : Ar} {l : List Nat} {s t : List Int} (h : Drops A B l s) (hm : s.Perm t) : Drops A B l t :=
 ⟨h.d, fun k => by rw [h.at_]; simp only [hm.mem_iff], by rw [← hm.length_eq]; exact h.cnt⟩
theorem posts_take {A : Ar} {p : Int} {l : List Int} {ns : List Nd} (h : Trs A p l ns) (k : Nat) (h1 : k < l.length) (h2 : k < ns.length) (q : Nat) (hq : l[k] = (q : Int)) : posts A (l.take (k + 1)) (ns.take (k + 1)) = posts A (l.take k) (ns.take k) ++ post A q ns[k] := by
 rw [List.take_succ_eq_append_getElem h1, List.take_succ_eq_append_getElem h2, posts_app A _ _ (by rw [List.length_take, List.length_take]; omega), hq]
 simp [posts]
theorem orders_take (ns : List Nd) (k : Nat) (h2 : k < ns.length) : Nd.orders (ns.take (k + 1)) = Nd.orders (ns.take k) ++ ns[k].order := by
 rw [List.take_succ_eq_append_getElem h2, Nd.orders_app]
 simp [Nd.orders]
theorem Drops.one {A : Ar} {i : Nat} (fv : Value) (hi : i < A.cells.length) (h : (A.at_ (A.cells[i]).id).isSome = true) (h0 : 0 < A.cnt) : Drops A (A.drop1 i fv) [i] [(A.cells[i]).id] := by
 have hid : ((A.cells[i]?).map Cel.id).getD 0 = (A.cells[i]).id := by simp [hi]
 refine ⟨Dropped.one A i fv, fun k => ?_, ?_⟩
 ·simp only [Ar.drop1, hid, List.mem_singleton]
 ·simp only [Ar.drop1, hid, h, if_true, List.length_singleton]; omega
end Go.Tr
namespace Go.Proofs.YtggcpoleklcmkaaGreatDoor
open Go.Sl Go.Ls Go.Tr
attribute [local irreducible] WC WL WX WK WA WAK Val Ctr RunRes ResIs Rd At sl box pt Exit.then Exit.inBlock bodyPost Code.wp wpList
theorem tDrop (N : Nat) : ∀ (nd : Nd), nd.size ≤ N → ∀ (A : Ar) (p : Int) (i : Nat) (I : Mem), nd.size ≤ 1000000000 → A.cells.length ≤ 1000000000 → A.free.length + nd.size ≤ 1000000000 → Tr A p i nd → nd.order.Nodup → (∀ k ∈ nd.order, (A.at_ k).isSome = true) → nd.size ≤ A.cnt →
  Ctr Tryz.prog 149 [ptr A.b, vi i] I A.hp (fun v I' L' => I' = I ∧ ∃ A', L' = A'.hp ∧ Drops A A' (post A i nd) nd.order) := by
 induction N with
 | zero => intro nd h; have := nd.size_pos; omega
 | succ N ih =>
  intro nd hs A p i I hb hcl hfl ht hod hat hcnt
  obtain ⟨hi, hid, hgr, hpa, hks⟩ := ht.ex
  have hsz := sizes_lt nd
  have hll := Nd.len_le_sizes nd.kids
  have hlk := hks.len
  obtain ⟨_, hpost⟩ := post_eq ht
  have hpn := ht.nodup hod
  rw [hpost] at hpn
  have hod' := hod
  rw [Nd.order_eq, List.nodup_cons] at hod'
  have hc := Ar.c3 hi
  have hrow := Ar.row hi
  refine Ctr.intro Tryz.func149 rfl rfl rfl fun E F => ?_
  refine WC.rowOpen 5 i rfl hrow fun aa cap hkv hg => ?_
  rw [hkv] at hc
  refine jB (jS (jd rfl (jm (jr rfl) (jm (jn rfl) (jm (jp 1 rfl rfl rfl) (ja rfl (jm (jZ rfl rfl) (jm (jn rfl) (jm (Val.loadS rfl (Rd.sl1 2 rfl (by assumption))) ?_)))))))))
  refine jm (jo rfl) (ja rfl (jM (WC.block ?_)))
  refine WC.loop (fun n ρ' I' L' => ∃ (k : Nat) (B : Ar), n = nd.kids.length - k ∧ k ≤ nd.kids.length ∧ I' = I ∧ ρ' 0 = ptr B.b ∧ ρ' 1 = vi i ∧ ρ' 13 = .slice aa (A.cells[i]).kids.length cap ∧ ρ' 14 = vi (A.cells[i]).kids.length ∧ ρ' 15 = vi k ∧ L' = F :: B.hp ∧
    Drops A B (posts A ((A.cells[i]).kids.take k) (nd.kids.take k)) (Nd.orders (nd.kids.take k)))
   nd.kids.length ⟨0, A, rfl, by omega, rfl, rfl, rfl, rfl, rfl, rfl, rfl, by simpa [posts, Nd.orders] using Drops.refl A⟩ ?_
  rintro n ρ' I0 L' ⟨k, B, rfl, hk, rfl, h0, h1, h13, h14, h15, rfl, hD⟩
  refine ju5 h15 h14 h13 h1 h0 ?_
  have hsplit := (Trs.split k hks).2.2
  have hpk := Trs.split k hks
  have hinot : i ∉ posts A ((A.cells[i]).kids.take k) (nd.kids.take k) := fun h => dis_of_nodup hpn (by rw [hsplit]; exact List.mem_append.2 (.inl h)) (List.mem_singleton.2 rfl)
  have hBi := hD.d.out i hinot
  have hiB : i < B.cells.length := by rw [hD.d.len]; exact hi
  have heB : B.cells[i] = A.cells[i] := by
   rw [List.getElem?_eq_getElem hi, List.getElem?_eq_getElem hiB] at hBi; injection hBi
  by_cases hkn : k < nd.kids.length
  ·obtain ⟨g, rfl⟩ := hg (by omega)
   obtain ⟨q, hq, htq⟩ := hks.get k (by omega) hkn
   have hrowB := Ar.row hiB
   have hv : ((B.cells[i]).kids.map vi)[0 + ((k : Nat) : Int).toNat * 1]? = some (vi q) := by
    rw [heB, Nat.zero_add, Int.toNat_natCast, Nat.mul_one, List.getElem?_map, List.getElem?_eq_getElem (by omega), hq]; rfl
   rw [heB, hkv] at hrowB
   rw [heB] at hv
   have hbk := kid_sz hkn
   have hst := posts_take hks k (by omega) hkn q hq
   have hso := orders_take nd.kids k hkn
   have hnd1 : (posts A ((A.cells[i]).kids.take k) (nd.kids.take k) ++ post A q nd.kids[k]).Nodup := by
    rw [← hst]
    have := (List.nodup_append.1 hpn).1
    rw [(Trs.split (k + 1) hks).2.2] at this
    exact (List.nodup_append.1 this).1
   have hnd2 : (Nd.orders (nd.kids.take k) ++ nd.kids[k].order).Nodup := by
    rw [← hso]
    have : Nd.orders nd.kids = Nd.orders (nd.kids.take (k + 1)) ++ Nd.orders (nd.kids.drop (k + 1)) := by rw [← Nd.orders_app, List.take_append_drop]
    have h2 := hod'.2
    rw [this] at h2
    exact (List.nodup_append.1 h2).1
   obtain ⟨htB, hpB⟩ := Tr.keep (A' := B) nd.kids[k] _ q htq (fun j hj => hD.d.out j (fun h => dis_of_nodup hnd1 h hj))
   have hoq : nd.kids[k].order.Nodup := (List.nodup_append.1 hnd2).2.1
   have hkm : ∀ x ∈ nd.kids[k].order, x ∈ nd.order := fun x hx => by
    rw [Nd.order_eq]
    have : Nd.orders nd.kids = Nd.orders (nd.kids.take (k + 1)) ++ Nd.orders (nd.kids.drop (k + 1)) := by rw [← Nd.orders_app, List.take_append_drop]
    rw [this, hso]
    exact List.mem_cons_of_mem _ (List.mem_append.2 (.inl (List.mem_append.2 (.inr hx))))
   have hfB : B.free.length = A.free.length + Nd.sizes (nd.kids.take k) := by
    rw [hD.d.free, List.length_append, List.length_map, ← List.length_map (f := A.idAt), hpk.1.ids.length_eq, Nd.orders_len]
   have hcB : B.cnt + Nd.sizes (nd.kids.take k) = A.cnt := by rw [← Nd.orders_len]; exact hD.cnt
   have hsz1 : Nd.sizes (nd.kids.take (k + 1)) = Nd.sizes (nd.kids.take k) + nd.kids[k].size := by rw [take1 _ _ hkn, Nd.sizes_app]; simp [Nd.sizes]
   have hsz2 := Nd.sizes_take nd.kids (k + 1)
   refine jS (jy rfl rfl (jM (jB (jF (jV (jA (jB (WC.block (jS (jm (jZ rfl rfl) (jm (Val.loadS rfl (Rd.row1 5 i rfl hrowB hv)) ?_)))))))))))
   refine jf rfl (jM (jD (jd rfl (ja rfl ?_))))
   refine WL.callAll rfl rfl (ih _ (kid_lt hs hkn) B i q I0 (by omega) (by rw [hD.d.len]; exact hcl) (by omega) htB hoq (fun x hx => ?_) (by omega)) rfl ?_
   ·rw [hD.at_, if_neg (fun h => dis_of_nodup hnd2 h hx)]
    exact hat x (hkm x hx)
   rintro v I2 L2 hI2 ⟨rfl, C, rfl, hC⟩
   refine jC (WX.inNormal (jA (jD (jX rfl rfl (ja rfl (jC ?_))))))
   refine WX.thenK (WK.round (nd.kids.length - (k + 1)) (by omega) ⟨k + 1, C, rfl, by omega, rfl, by rw [hC.d.b]; rfl, rfl, rfl, rfl, rfl, rfl, ?_⟩)
   rw [hst, hso]
   rw [hpB] at hC
   exact hD.trans hC
  ·have hfin : k = nd.kids.length := by omega
   subst hfin
   have hfl2 : nd.kids.length = (A.cells[i]).kids.length := hlk.symm
   rw [List.take_length, List.take_of_length_le (by omega)] at hD
   have hrowB := Ar.row hiB
   have hcB := Ar.c0 hiB
   have hfB : B.free.length = A.free.length + Nd.sizes nd.kids := by
    rw [hD.d.free, List.length_append, List.length_map, ← List.length_map (f := A.idAt), hks.ids.length_eq, Nd.orders_len]
   have hcB2 : B.cnt + Nd.sizes nd.kids = A.cnt := by rw [← Nd.orders_len]; exact hD.cnt
   have hlenB := hD.d.len
   refine jS (jx rfl rfl (jM (jB (jE (WC.exit (WX.thenExit (WX.thenExit (WX.inHit (jA (jB (j8 999 [1, 1] rfl (jT 0 rfl (Val.moveP rfl) (jT 1 rfl (jr rfl) (jT 2 rfl (jn rfl) (jT 3 rfl (jp 0 rfl rfl rfl) (jT 4 rfl (Val.moveP rfl) (jT 5 rfl (jr rfl) (jT 6 rfl (jn rfl) (jT 7 rfl (jp 0 rfl rfl rfl) (jT 8 rfl (Val.moveI rfl) (jT 9 rfl (jZ rfl rfl) (jT 10 rfl (jn rfl) (jT 11 rfl (Val.loadS rfl (Rd.sl1 1 rfl hcB)) ?_)))))))))))))))))))))))
   refine j5 12 rfl (WL.delete 4 rfl rfl rfl ?_)
   refine WL.nSet ?_
   refine jC (j7 [1, 1] rfl (j6 (jK (jd rfl (jm (jr rfl) (jm (jn rfl) (jm (jp 1 rfl rfl rfl) (ja rfl (jm (Val.build0) ?_)))))))))
   refine jm (jZ rfl rfl) (WL.storeSl 2 rfl rfl rfl rfl (by show 0 + (i : Int).toNat * 4 + 4 ≤ B.cells.length * 4; rw [Int.toNat_natCast]; omega) ?_)
   refine WL.nSet ?_
   refine WL.rowNil 3 1 5 i rfl hrowB ?_
   refine WL.nSet ?_
   refine jM (jD (jd rfl (jd rfl (jm (jr rfl) (jm (jn rfl) (jm (jp 1 rfl rfl rfl) (ja rfl (WL.buildSlice (by with_unfolding_all exact rfl) rfl (by with_unfolding_all exact rfl) rfl (fun _ => ?_)))))))))
   refine jW ?_
   refine WL.appI (l := B.free) (i := (i : Int)) 3 6 rfl rfl rfl rfl rfl (by omega) rfl fun aa2 cap2 => ?_
   refine WL.nSet ?_
   refine jm (jr rfl) (jm (jn rfl) (WL.stS 1 rfl rfl rfl rfl ?_))
   refine jC ?_
   apply WX.doneN (ks := [0, 0, 0, 0, 0])
   case hres => exact RunRes.r0 rfl
   case hp => rfl
   case hI => first | exact Mem.le.refl _ | assumption
   refine ⟨rfl, B.drop1 i (.slice aa2 (B.free ++ [(i : Int)]).length cap2), by rw [Ar.drop1_hp B i _ hiB]; rfl, ?_⟩
   have hidB : (B.cells[i]).id = nd.id := by rw [heB, hid]
   have h1 := Drops.one (A := B) (.slice aa2 (B.free ++ [(i : Int)]).length cap2) hiB (by
    rw [hidB, hD.at_, if_neg hod'.1]
    exact hat _ (Nd.id_mem nd)) (by omega)
   have h2 := hD.trans h1
   rw [hidB] at h2
   rw [hpost]
   refine h2.congr ?_
   rw [Nd.order_eq]
   exact List.perm_append_comm
end Go.Proofs.YtggcpoleklcmkaaGreatDoor

namespace Go.Tr
open Go.Sl Go.Ls
structure LayOk (A : Ar) (nd : Nd) : Prop where
 frb : ∀ x ∈ A.free, ∃ n : Nat, x = (n : Int) ∧ n < A.cells.length
 fnd : (A.free.map Int.toNat).Nodup
 od : nd.order.Nodup
 at_ : ∀ k ∈ nd.order, A.at_ k = none
 len : A.cells.length + nd.size ≤ 1000000000
 frl : A.free.length ≤ 1000000000
abbrev news (A A' : Ar) : List Nat := A.free.map Int.toNat ++ List.range' A.cells.length (A'.cells.length - A.cells.length)
structure Laid (A A' : Ar) (p : Int) (i : Nat) (nd : Nd) : Prop where
 b : A'.b = A.b
 mb : A'.mb = A.mb
 tr : Tr A' p i nd
 perm : (post A' i nd ++ A'.free.map Int.toNat).Perm (news A A')
 le : A.cells.length ≤ A'.cells.length
 frs : ∀ x ∈ A'.free, x ∈ A.free
 frl : A'.free.length ≤ A.free.length
 out : ∀ j, j < A.cells.length → j ∉ post A' i nd → A'.cells[j]? = A.cells[j]?
 at_ : ∀ j ∈ post A' i nd, A'.at_ (A'.idAt j) = some (j : Int)
 atn : ∀ k, k ∉ nd.order → A'.at_ k = A.at_ k
 cnt : A'.cnt = A.cnt + nd.size
 grow : A'.cells.length = A.cells.length ∨ A'.free = []
theorem mem_news {A A' : Ar} {j : Nat} : j ∈ news A A' ↔ j ∈ A.free.map Int.toNat ∨ (A.cells.length ≤ j ∧ j < A.cells.length + (A'.cells.length - A.cells.length)) := by
 rw [news, List.mem_append, List.mem_range'_1]
theorem free_lt {A : Ar} (h : ∀ x ∈ A.free, ∃ n : Nat, x = (n : Int) ∧ n < A.cells.length) {j : Nat} (hj : j ∈ A.free.map Int.toNat) : j < A.cells.length := by
 obtain ⟨x, hx, rfl⟩ := List.mem_map.1 hj
 obtain ⟨n, rfl, hn⟩ := h x hx
 simpa using hn
theorem news_nodup {A A' : Ar} (h : ∀ x ∈ A.free, ∃ n : Nat, x = (n : Int) ∧ n < A.cells.length) (k : (A.free.map Int.toNat).Nodup) : (news A A').Nodup := by
 rw [news, List.nodup_append]
 refine ⟨k, List.nodup_range', fun a ha b hb e => ?_⟩
 have := free_lt h ha
 rw [List.mem_range'_1] at hb
 omega
theorem Laid.nodup {A A' : Ar} {p : Int} {i : Nat} {nd : Nd} (h : Laid A A' p i nd) (hf : ∀ x ∈ A.free, ∃ n : Nat, x = (n : Int) ∧ n < A.cells.length) (k : (A.free.map Int.toNat).Nodup) : (post A' i nd ++ A'.free.map Int.toNat).Nodup := h.perm.nodup_iff.2 (news_nodup hf k)
theorem Laid.size_le {A A' : Ar} {p : Int} {i : Nat} {nd : Nd} (h : Laid A A' p i nd) : A'.cells.length + A.free.length = A.cells.length + nd.size + A'.free.length := by
 have h1 := h.perm.length_eq
 rw [List.length_append, List.length_append, List.length_map, List.length_map, List.length_range', h.tr.len] at h1
 have := h.le
 omega
theorem Laid.next {A B : Ar} {p : Int} {i : Nat} {id : Int} {g : Bool} {ns : List Nd} {n : Nd} (h : Laid A B p i (.mk id g ns)) (hA : LayOk A (.mk id g (ns ++ [n]))) : LayOk B n := by
 have hod := hA.od
 rw [Nd.order, Nd.orders_app, List.nodup_cons] at hod
 have hon : Nd.orders [n] = n.order := by simp [Nd.orders]
 rw [hon] at hod
 have hsz : (Nd.mk id g (ns ++ [n])).size = (Nd.mk id g ns).size + n.size := by
  rw [Nd.size, Nd.size, Nd.sizes_app]; simp only [Nd.sizes]; omega
 refine ⟨fun x hx => ?_, ?_, (List.nodup_append.1 hod.2).2.1, fun k hk => ?_, ?_, ?_⟩
 ·obtain ⟨m, e, hm⟩ := hA.frb x (h.frs x hx)
  exact ⟨m, e, Nat.lt_of_lt_of_le hm h.le⟩
 ·exact (List.nodup_append.1 (h.nodup hA.frb hA.fnd)).2.1
 ·rw [h.atn k]
  ·exact hA.at_ k (by rw [Nd.order, Nd.orders_app, hon]; exact List.mem_cons_of_mem _ (List.mem_append.2 (.inr hk)))
  ·rw [Nd.order, List.mem_cons]
   rintro (rfl | hm)
   ·exact hod.1 (List.mem_append.2 (.inr hk))
   ·exact (List.nodup_append.1 hod.2).2.2 _ hm _ hk rfl
 ·have := h.size_le
  have := hA.len
  have := h.frl
  omega
 ·exact Nat.le_trans h.frl hA.frl
theorem LayOk.take {A : Ar} {nd : Nd} (h : LayOk A nd) (k : Nat) : LayOk A (.mk nd.id nd.grp (nd.kids.take k)) := by
 have e : Nd.orders nd.kids = Nd.orders (nd.kids.take k) ++ Nd.orders (nd.kids.drop k) := by rw [← Nd.orders_app, List.take_append_drop]
 have ho := h.od
 rw [Nd.order_eq, e, List.nodup_cons] at ho
 refine ⟨h.frb, h.fnd, ?_, fun x hx => h.at_ x ?_, ?_, h.frl⟩
 ·rw [Nd.order, List.nodup_cons]
  exact ⟨fun hm => ho.1 (List.mem_append.2 (.inl hm)), (List.nodup_append.1 ho.2).1⟩
 ·rw [Nd.order, List.mem_cons] at hx
  rw [Nd.order_eq, e, List.mem_cons]
  exact hx.imp (fun h => h) (fun h => List.mem_append.2 (.inl h))
 ·have h1 := Nd.sizes_take nd.kids k
  have h2 := h.len
  have h3 : nd.size = 1 + Nd.sizes nd.kids := by cases nd; rfl
  rw [Nd.size]
  omega
theorem setKids_get (A : Ar) (p : Nat) (ks : List Int) (kv : Value) (j : Nat) : (A.setKids p ks kv).cells[j]? = if p = j then (A.cells[j]?).map (fun c => { c with kids := ks, kv := kv }) else A.cells[j]? := by
 rw [Ar.setKids, List.getElem?_modify]
 by_cases h : p = j
 ·rw [if_pos h]; simp [h]
 ·rw [if_neg h]; simp [h]
theorem setKids_ne (A : Ar) (p : Nat) (ks : List Int) (kv : Value) {j : Nat} (h : j ≠ p) : (A.setKids p ks kv).cells[j]? = A.cells[j]? := by rw [setKids_get, if_neg (Ne.symm h)]
theorem setKids_at (A : Ar) (p : Nat) (ks : List Int) (kv : Value) (h : p < A.cells.length) : ∃ h' : p < (A.setKids p ks kv).cells.length, (A.setKids p ks kv).cells[p] = { A.cells[p] with kids := ks, kv := kv } := by
 have h' : p < (A.setKids p ks kv).cells.length := by rw [Ar.setKids_len]; exact h
 refine ⟨h', ?_⟩
 have := setKids_get A p ks kv p
 rw [if_pos rfl, List.getElem?_eq_getElem h', List.getElem?_eq_getElem h] at this
 injection this
theorem setKids_id (A : Ar) (p : Nat) (ks : List Int) (kv : Value) (j : Nat) : (A.setKids p ks kv).idAt j = A.idAt j := by
 rw [Ar.idAt, Ar.idAt, setKids_get]
 split
 ·cases A.cells[j]? <;> rfl
 ·rfl
theorem Laid.kid {A B C : Ar} {p : Int} {i q : Nat} {id : Int} {g : Bool} {ns : List Nd} {n : Nd} (kv : Value) (hA : LayOk A (.mk id g (ns ++ [n]))) (h : Laid A B p i (.mk id g ns)) (k : Laid B C (i : Int) q n) :
  ∃ hi : i < C.cells.length, Laid A (C.setKids i ((C.cells[i]).kids ++ [(q : Int)]) kv) p i (.mk id g (ns ++ [n])) := by
 have hod := hA.od
 rw [Nd.order, Nd.orders_app, List.nodup_cons] at hod
 have hon : Nd.orders [n] = n.order := by simp [Nd.orders]
 rw [hon] at hod
 have hB := h.next hA
 have hnB := h.nodup hA.frb hA.fnd
 have hiB : i ∈ post B i (.mk id g ns) := self_post B i _
 have hltB := h.tr.lt
 have hdis : ∀ j ∈ post B i (.mk id g ns), j ∉ post C q n := fun j hj hc => by
  have := k.perm.mem_iff.1 (List.mem_append.2 (.inl hc))
  rcases mem_news.1 this with hf | hr
  ·exact dis_of_nodup hnB hj hf
  ·have := hltB j hj; omega
 have hCB : ∀ j ∈ post B i (.mk id g ns), C.cells[j]? = B.cells[j]? := fun j hj => k.out j (hltB j hj) (hdis j hj)
 obtain ⟨htC, hpC⟩ := Tr.keep (A' := C) _ p i h.tr hCB
 obtain ⟨hiC, c1, c2, c3, c4⟩ := htC.ex
 have hpost := (post_eq htC).2
 refine ⟨hiC, ?_⟩
 have hnC : (post C i (.mk id g ns)).Nodup := by rw [hpC]; exact (List.nodup_append.1 hnB).1
 rw [hpost] at hnC
 obtain ⟨hiD, eD⟩ := setKids_at C i ((C.cells[i]).kids ++ [(q : Int)]) kv hiC
 generalize hDD : C.setKids i ((C.cells[i]).kids ++ [(q : Int)]) kv = D at *
 have hDne : ∀ j, j ≠ i → D.cells[j]? = C.cells[j]? := fun j hj => by rw [← hDD]; exact setKids_ne _ _ _ _ hj
 have hDid : ∀ j, D.idAt j = C.idAt j := fun j => by rw [← hDD]; exact setKids_id _ _ _ _ _
 have hDlen : D.cells.length = C.cells.length := by rw [← hDD]; exact Ar.setKids_len _ _ _ _
 have hDfree : D.free = C.free := by rw [← hDD]; rfl
 have hDat : D.at_ = C.at_ := by rw [← hDD]; rfl
 obtain ⟨k1, k2⟩ := Trs.keep (A' := D) _ _ c4 (fun j hj => hDne j (fun e => dis_of_nodup hnC hj (by rw [e]; exact List.mem_singleton.2 rfl)))
 obtain ⟨q1, q2⟩ := Tr.keep (A' := D) n _ q k.tr (fun j hj => hDne j (fun e => hdis i hiB (e ▸ hj)))
 have htD : Tr D p i (.mk id g (ns ++ [n])) := Tr.mk hiD (by rw [eD]; exact c1) (by rw [eD]; exact c2) (by rw [eD]; exact c3) (by rw [eD]; exact k1.app (Trs.cons q1 (Trs.nil _ _)))
 have hpD : post D i (.mk id g (ns ++ [n])) = posts C (C.cells[i]).kids ns ++ post C q n ++ [i] := by
  rw [(post_eq htD).2, eD]
  show posts D ((C.cells[i]).kids ++ [(q : Int)]) (ns ++ [n]) ++ [i] = _
  have k3 : posts D (C.cells[i]).kids ns = posts C (C.cells[i]).kids ns := k2
  rw [posts_app D (n1 := ns) _ _ c4.len, k3, posts_cons, q2]
  simp only [posts, List.append_nil]
 have hpB : post B i (.mk id g ns) = posts C (C.cells[i]).kids ns ++ [i] := by rw [← hpC, hpost]; rfl
 refine ⟨?_, ?_, htD, ?_, ?_, ?_, ?_, ?_, ?_, ?_, ?_, ?_⟩
 ·rw [← hDD]; exact k.b.trans h.b
 ·rw [← hDD]; exact k.mb.trans h.mb
 ·rw [hpD, hDfree]
  have e1 : (posts C (C.cells[i]).kids ns ++ post C q n ++ [i] ++ C.free.map Int.toNat).Perm (post B i (.mk id g ns) ++ (post C q n ++ C.free.map Int.toNat)) := by
   rw [hpB]
   simp only [List.append_assoc]
   exact List.Perm.append_left _ (List.perm_append_comm_assoc _ _ _)
  refine e1.trans ((k.perm.append_left _).trans ?_)
  rw [news, ← List.append_assoc]
  refine (h.perm.append_right _).trans ?_
  rw [news, news, List.append_assoc, hDlen]
  refine List.Perm.append_left _ ?_
  have h1 := h.le
  have h2 := k.le
  have e : List.range' A.cells.length (B.cells.length - A.cells.length) ++ List.range' B.cells.length (C.cells.length - B.cells.length) = List.range' A.cells.length (C.cells.length - A.cells.length) := by
   have := List.range'_append_1 (s := A.cells.length) (m := B.cells.length - A.cells.length) (n := C.cells.length - B.cells.length)
   rw [show A.cells.length + (B.cells.length - A.cells.length) = B.cells.length by omega] at this
   rw [this]
   congr 1
   omega
  rw [e]
 ·rw [hDlen]; exact Nat.le_trans h.le k.le
 ·rw [hDfree]; exact fun x hx => h.frs x (k.frs x hx)
 ·rw [hDfree]; exact Nat.le_trans k.frl h.frl
 ·intro j hj hnj
  rw [hpD] at hnj
  simp only [List.mem_append, not_or, List.mem_singleton] at hnj
  rw [hDne j hnj.2, k.out j (Nat.lt_of_lt_of_le hj h.le) hnj.1.2, h.out j hj]
  rw [hpB]
  simp only [List.mem_append, not_or, List.mem_singleton]
  exact ⟨hnj.1.1, hnj.2⟩
 ·intro j hj
  rw [hDat, hDid]
  rw [hpD] at hj
  by_cases hjq : j ∈ post C q n
  ·exact k.at_ j hjq
  ·have hjB : j ∈ post B i (.mk id g ns) := by
    rw [hpB]
    simp only [List.mem_append] at hj ⊢
    rcases hj with (hj | hj) | hj
    ·exact .inl hj
    ·exact absurd hj hjq
    ·exact .inr hj
   have e := Ar.idAt_congr (hCB j hjB)
   rw [e, k.atn, h.at_ j hjB]
   intro hm
   have hm2 := h.tr.mem hjB
   rw [Nd.order, List.mem_cons] at hm2
   rcases hm2 with e2 | hm2
   ·exact hod.1 (List.mem_append.2 (.inr (e2 ▸ hm)))
   ·exact (List.nodup_append.1 hod.2).2.2 _ hm2 _ hm rfl
 ·intro x hx
  rw [Nd.order, Nd.orders_app, hon, List.mem_cons, List.mem_append, not_or, not_or] at hx
  rw [hDat, k.atn x hx.2.2, h.atn x]
  rw [Nd.order, List.mem_cons, not_or]
  exact ⟨hx.1, hx.2.1⟩
 ·have e1 := k.cnt
  have e2 := h.cnt
  have e3 : D.cnt = C.cnt := by rw [← hDD]; rfl
  rw [e3, e1, e2, Nd.size, Nd.size, Nd.sizes_app]
  simp only [Nd.sizes]
  omega
 ·rw [hDlen, hDfree]
  rcases k.grow with k1 | k1
  ·rcases h.grow with h1 | h1
   ·exact .inl (k1.trans h1)
   ·refine .inr (List.eq_nil_iff_forall_not_mem.2 fun x hx => ?_)
    have := k.frs x hx
    rw [h1] at this; cases this
  ·exact .inr k1
structure Spot (A B : Ar) (i : Nat) : Prop where
 b : B.b = A.b
 mb : B.mb = A.mb
 lt : i < B.cells.length
 perm : (i :: B.free.map Int.toNat).Perm (news A B)
 le : A.cells.length ≤ B.cells.length
 frs : ∀ x ∈ B.free, x ∈ A.free
 frl : B.free.length ≤ A.free.length
 out : ∀ j, j < A.cells.length → j ≠ i → B.cells[j]? = A.cells[j]?
 at_ : B.at_ = A.at_
 cnt : B.cnt = A.cnt
 grow : B.cells.length = A.cells.length ∨ B.free = []
def newCel (id : Int) (g : Bool) (p : Int) : Cel := { id := id, grp := g, par := p, kids := [], kv := .slice none 0 0 }
def Ar.own (B : Ar) (i : Nat) (id : Int) (g : Bool) (p : Int) : Ar := { B with cells := B.cells.set i (newCel id g p), at_ := fun k => if k = id then some (i : Int) else B.at_ k, cnt := if (B.at_ id).isSome then B.cnt else B.cnt + 1 }
theorem Spot.own {A B : Ar} {i : Nat} (h : Spot A B i) (id : Int) (g : Bool) (p : Int) (h0 : A.at_ id = none) : Laid A (B.own i id g p) p i (.mk id g []) := by
 have hlen : (B.own i id g p).cells.length = B.cells.length := by simp [Ar.own]
 have hi : i < (B.own i id g p).cells.length := by rw [hlen]; exact h.lt
 have hci : (B.own i id g p).cells[i] = newCel id g p := by simp [Ar.own]
 have htr : Tr (B.own i id g p) p i (.mk id g []) := Tr.mk hi (by rw [hci]; rfl) (by rw [hci]; rfl) (by rw [hci]; rfl) (by rw [hci]; exact Trs.nil _ _)
 have hpost : post (B.own i id g p) i (.mk id g []) = [i] := by rw [(post_eq htr).2, hci]; rfl
 refine ⟨h.b, h.mb, htr, ?_, by rw [hlen]; exact h.le, h.frs, h.frl, fun j hj hn => ?_, fun j hj => ?_, fun k hk => ?_, ?_, by rw [hlen]; exact h.grow⟩
 ·rw [hpost, news, hlen]; exact h.perm
 ·rw [hpost, List.mem_singleton] at hn
  rw [← h.out j hj hn]
  simp only [Ar.own]
  rw [List.getElem?_set_ne (Ne.symm hn)]
 ·rw [hpost, List.mem_singleton] at hj
  subst hj
  rw [Ar.idAt_eq hi, hci]
  simp [Ar.own, newCel]
 ·simp only [Nd.order, Nd.orders, List.mem_singleton] at hk
  simp only [Ar.own, if_neg hk, h.at_]
 ·simp only [Ar.own, h.at_, h0, Nd.size, Nd.sizes, h.cnt]
  simp
theorem Spot.pop {A : Ar} {f : List Int} {i : Nat} (fv : Value) (hf : A.free = f ++ [(i : Int)]) (hfr : ∀ x ∈ A.free, ∃ n : Nat, x = (n : Int) ∧ n < A.cells.length) : Spot A { A with free := f, fv := fv } i := by
 refine ⟨rfl, rfl, ?_, ?_, Nat.le_refl _, fun x hx => ?_, ?_, fun _ _ _ => rfl, rfl, rfl, .inl rfl⟩
 ·obtain ⟨n, e, hn⟩ := hfr (i : Int) (by rw [hf]; simp)
  have : n = i := by omega
  rw [← this]; exact hn
 ·simp only [news, hf, Nat.sub_self, List.range'_zero, List.append_nil, List.map_append, List.map_cons, List.map_nil, Int.toNat_natCast]
  exact List.perm_append_comm (l₁ := [i])
 ·rw [hf]; exact List.mem_append.2 (.inl hx)
 ·simp [hf]
theorem Spot.push {A : Ar} (cg cc : Nat) (hf : A.free = []) : Spot A { A with cells := A.cells ++ [zeroCel], cg := cg, cc := cc } A.cells.length := by
 refine ⟨rfl, rfl, by simp, ?_, by simp, fun x hx => hx, Nat.le_refl _, fun j hj _ => ?_, rfl, rfl, .inr hf⟩
 ·simp [news, hf]
 ·exact List.getElem?_append_left hj
end Go.Tr

namespace Go.Sl
open Go.Ls
theorem Sat.slShrink {E : Ev} {w : World} {I : Mem} {L : List HP} {e sz n m cap g : Nat} {xs : List Value} (k : Nat) (hL : L[k]? = some (sl e sz (.slice (some ⟨g, 0, none⟩) n cap) n xs)) (hm : m ≤ n) (h : Sat E w I L) : Sat E w I (L.set k (sl e sz (.slice (some ⟨g, 0, none⟩) m cap) m (xs.take (m * sz)))) := by
 obtain ⟨cs, c1, c2, c3, c4, hw⟩ := h.slOut k hL
 have hlt : k < L.length := (List.getElem?_eq_some_iff.1 hL).1
 have hg : (L.set k (Sl.box g e cs))[k]? = some (Sl.box g e cs) := by simp [hlt]
 have h2 := hw.slIn (n := m) (cap := cap) k hg c1 (Nat.le_trans hm c3) c4
 rw [List.set_set] at h2
 rw [← c2, List.take_take, Nat.min_eq_left (Nat.mul_le_mul_right _ hm)]
 exact h2
theorem WC.slCap {Γ : Cx} {c : Code} {ρ : Nat → Value} {I : Mem} {L : List HP} {Q : Post} {e sz n cap g : Nat} {xs : List Value} (k : Nat) (hL : L[k]? = some (sl e sz (.slice (some ⟨g, 0, none⟩) n cap) n xs)) (next : n ≤ cap → WC Γ c ρ I L Q) : WC Γ c ρ I L Q := fun a w ha hw => by
 obtain ⟨m, hm, h1, h2⟩ := (hw.perm (pull k L _ hL)).head
 rcases h2 with ⟨h0, _⟩ | ⟨g', cap', cur, hv, _, h3, _⟩
 ·cases h0
 ·injection hv with _ _ hc
  subst hc
  exact next h3 a w ha hw
end Go.Sl
namespace Go.Tr
open Go.Sl Go.Ls
theorem Ar.own_hp (A : Ar) (i : Nat) (id : Int) (g : Bool) (p : Int) (hi : i < A.cells.length) : (A.own i id g p).hp = [box A.b 145 [A.cv, A.fv, .map (some A.mb)], sl 191 4 A.cv A.cells.length (splice A.flat (0 + (i : Int).toNat * 4) [vi id, .bool g, vi p, .slice none 0 0]),
  sl 3 1 A.fv A.free.length (A.free.map vi), mp A.mb (Sl.put A.look id (vi i)) (if (A.look id).isSome then A.cnt else A.cnt + 1), sts ((A.cells.map Cel.row).set i (sl 3 1 (.slice none 0 0) 0 []))] := by
 have e1 : (A.own i id g p).cells.length = A.cells.length := by simp [Ar.own]
 have e2 : (A.own i id g p).flat = splice A.flat (0 + (i : Int).toNat * 4) [vi id, .bool g, vi p, .slice none 0 0] := by
  have := flat_splice (by decide) (A.cells.map Cel.cs) A.flat_len i 0 [vi id, .bool g, vi p, .slice none 0 0] (by simpa using hi) (by simp)
  rw [Nat.zero_add, Int.toNat_natCast]
  rw [Nat.add_zero] at this
  rw [Ar.flat, Ar.flat, this, Ar.own, List.map_set, List.getElem_map]
  rfl
 have e3 : (A.own i id g p).cells.map Cel.row = (A.cells.map Cel.row).set i (sl 3 1 (.slice none 0 0) 0 []) := by
  rw [Ar.own, List.map_set]; rfl
 have e4 : (A.own i id g p).look = Sl.put A.look id (vi i) := by
  funext k
  simp only [Ar.look, Ar.own, Sl.put]
  by_cases hk : k = id
  ·rw [if_pos hk, if_pos hk]; rfl
  ·rw [if_neg hk, if_neg hk]
 have e5 : (A.own i id g p).cnt = if (A.look id).isSome then A.cnt else A.cnt + 1 := by
  simp only [Ar.own, Ar.look, Option.isSome_map]
 simp only [Ar.hp, Ar.cv, e1, e2, e3, e4, e5]
 rfl
theorem Ar.push_hp (A : Ar) (g c : Nat) : ({ A with cells := A.cells ++ [zeroCel], cg := g, cc := c } : Ar).hp = [box A.b 145 [.slice (some ⟨g, 0, none⟩) (A.cells.length + 1) c, A.fv, .map (some A.mb)], sl 191 4 (.slice (some ⟨g, 0, none⟩) (A.cells.length + 1) c) (A.cells.length + 1) (A.flat ++ [vi 0, .bool false, vi 0, .slice none 0 0]),
  sl 3 1 A.fv A.free.length (A.free.map vi), mp A.mb A.look A.cnt, sts (A.cells.map Cel.row ++ [sl 3 1 (.slice none 0 0) 0 []])] := by
 have e1 : (A.cells ++ [zeroCel]).length = A.cells.length + 1 := by simp
 have e2 : ((A.cells ++ [zeroCel]).map Cel.cs).flatten = A.flat ++ [vi 0, .bool false, vi 0, .slice none 0 0] := by
  rw [List.map_append, List.flatten_append]; rfl
 have e3 : (A.cells ++ [zeroCel]).map Cel.row = A.cells.map Cel.row ++ [sl 3 1 (.slice none 0 0) 0 []] := by
  rw [List.map_append]; rfl
 simp only [Ar.hp, Ar.cv, Ar.flat, e1, e3]
 have e2' := e2
 rw [Ar.flat] at e2'
 rw [e2']
 rfl
end Go.Tr
namespace Go.Proofs.YtggcpoleklcmkaaGreatDoor
open Go.Sl Go.Ls Go.Tr
attribute [local irreducible] WC WL WX WK WA WAK Val Ctr RunRes ResIs Rd At sl box pt Exit.then Exit.inBlock bodyPost Code.wp wpList
theorem tLay (N : Nat) : ∀ (nd : Nd), nd.size ≤ N → ∀ (A : Ar) (p : Int) (kv : Value) (I : Mem), nd.size ≤ 1000000000 → LayOk A nd → LsAt Nd.Rp I nd.kids kv →
  Ctr Tryz.prog 143 [ptr A.b, .agg #[vi nd.id, .bool nd.grp, kv], vi p] I A.hp (fun v I' L' => ∃ A' i, v = vi (i : Nat) ∧ L' = A'.hp ∧ Laid A A' p i nd) := by
 induction N with
 | zero => intro nd h; have := nd.size_pos; omega
 | succ N ih =>
  intro nd hs A p kv I hb hA hkv
  obtain ⟨ka, kc, rfl⟩ := hkv.sl
  have hsz := sizes_lt nd
  have hll := Nd.len_le_sizes nd.kids
  have hlen := hA.len
  have hnid : A.at_ nd.id = none := hA.at_ _ (Nd.id_mem nd)
  refine Ctr.intro Tryz.func143 rfl rfl rfl fun E F => ?_
  refine jS (WL.boxA rfl rfl (fun _ => ?_))
  refine jW ?_
  refine jf rfl (jN (jd rfl (jm (jr rfl) (jm (jn rfl) (jm (jp 1 rfl rfl rfl) (jm (jo rfl) (jf rfl (jM (jB (jS (jd rfl (jm (jr rfl) (jm (jn rfl) (jm (jp 1 rfl rfl rfl) ?_))))))))))))))
  rename_i g4
  have hz : A.cells.length ≤ 1000000000 := by omega
  have hfle := hA.frl
  refine WL.slOpen 3 rfl fun fa fc hfv => ?_
  rw [hfv]
  refine jm (jo rfl) (jm (Val.sub rfl rfl (wrap_i64 (by omega) (by omega))) ?_)
  refine jf rfl (jN (ja rfl (jm (Val.geq rfl rfl rfl) ?_)))
  refine jM (WC.boxFrz 6 rfl fun I1 hI1 hA1 => ?_)
  have hkv1 := hkv.mono hI1
  refine WC.cutP (fun ρ' I' L' => ∃ (B : Ar) (i : Nat), I' = I1 ∧ Spot A B i ∧ ρ' 0 = ptr B.b ∧ ρ' 2 = vi p ∧ ρ' 4 = ptr g4 ∧ ρ' 7 = vi i ∧ L' = F :: B.hp) ?_ ?_
  ·refine WC.cond rfl (fun ht => ?_) (fun hf => ?_)
   ·have hne : 0 < A.free.length := by have := of_decide_eq_true ht; omega
    obtain ⟨f, x, hfx⟩ : ∃ f x, A.free = f ++ [x] := ⟨A.free.dropLast, A.free.getLast (by intro e; rw [e] at hne; simp at hne), (List.dropLast_concat_getLast _).symm⟩
    obtain ⟨i, rfl, hi⟩ := hA.frb x (by rw [hfx]; simp)
    have hfl : A.free.length = f.length + 1 := by rw [hfx]; simp
    have e : ((A.free.length : Nat) : Int) - 1 = (f.length : Nat) := by omega
    have hv : (A.free.map vi)[0 + ((f.length : Nat) : Int).toNat * 1]? = some (vi i) := by
     rw [Nat.zero_add, Int.toNat_natCast, Nat.mul_one, hfx]; simp
    rw [e]
    refine WC.slSome 3 rfl hne fun gf hgf => ?_
    subst hgf
    refine WC.slCap 3 rfl fun hcap => ?_
    have hshr : (A.free.map vi).take (f.length * 1) = f.map vi := by rw [hfx]; simp
    refine jS (jd rfl (jm (jr rfl) (jm (jn rfl) (jm (jp 1 rfl rfl rfl) (ja rfl (jm (jZ rfl rfl) (jm (Val.loadS rfl (Rd.sl1 3 rfl (by assumption))) ?_)))))))
    refine jf rfl (jM (jD (jd rfl (jd rfl (jm (jr rfl) (jm (jn rfl) (jm (jp 1 rfl rfl rfl) (ja rfl (jm (Val.sliceTo rfl rfl (by omega)) ?_)))))))))
    refine jm (jr rfl) (jm (jn rfl) (WL.stS 1 rfl rfl rfl rfl ?_))
    refine jC (WX.conv (fun w h => h.slShrink (m := f.length) 3 rfl (by omega)) ?_)
    refine WX.nSet ?_
    rw [hshr]
    exact WX.thenK (WK.meet ⟨{ A with free := f, fv := .slice (some ⟨gf, 0, none⟩) f.length fc }, i, rfl, Spot.pop _ hfx hA.frb, rfl, rfl, rfl, rfl, rfl⟩)
   ·have hfe : A.free = [] := by
     have := of_decide_eq_false hf
     exact List.eq_nil_of_length_eq_zero (by omega)
    refine jD (jd rfl (jd rfl (jm (jr rfl) (jm (jn rfl) (jm (jp 1 rfl rfl rfl) (jm (Val.build0) ?_))))))
    refine WL.buildSlice (by with_unfolding_all exact rfl) rfl (by with_unfolding_all exact rfl) rfl (fun _ => ?_)
    refine jW ?_
    refine WL.append (ys := [vi 0, .bool false, vi 0, .slice none 0 0]) 2 rfl rfl rfl (Rd.ownN 4 6 rfl rfl) rfl rfl rfl (by decide) (by decide) (by omega) (by unfold maxLen; omega) rfl fun gg cap => ?_
    refine WL.nSet ?_
    refine jm (jr rfl) (jm (jn rfl) (WL.stS 1 rfl rfl rfl rfl ?_))
    refine jC ?_
    refine WX.conv (L' := F :: ({ A with cells := A.cells ++ [zeroCel], cg := gg, cc := cap } : Ar).hp) (fun w h => ?_) ?_
    ·rw [Ar.push_hp, hfv]
     have h1 := h.sub [0, 0, 0, 0, 0, 0] rfl
     exact ((h1.sl_nil (e := 3) (sz := 1)).rowNew 5 rfl)
    exact WX.thenK (WK.meet ⟨{ A with cells := A.cells ++ [zeroCel], cg := gg, cc := cap }, A.cells.length, rfl, Spot.push gg cap hfe, rfl, rfl, rfl, rfl, rfl⟩)
  ·rintro ρ' I' L' ⟨B, i, rfl, hP, h0, h2, h4, h7, rfl⟩
   refine ju4 h7 h4 h2 h0 ?_
   have hiB := hP.lt
   have hrowB := Ar.row hiB
   have hlB : B.cells.length ≤ A.cells.length + 1 := by
    have h1 := hP.perm.length_eq
    rw [List.length_cons, List.length_append, List.length_map, List.length_map, List.length_range'] at h1
    have h2 := hP.frl
    have h3 := hP.le
    omega
   refine jB (j8 999 [1] rfl (jT 0 rfl (Val.moveP rfl) (jT 1 rfl (jr rfl) (jT 2 rfl (jn rfl) (jT 3 rfl (jp 0 rfl rfl rfl) (jT 4 rfl (Val.moveI rfl) (jT 5 rfl (jn rfl) (jT 6 rfl (Val.loadS rfl (Rd.imm (At.zero (by assumption) rfl))) ?_))))))))
   refine jT 7 rfl (jn rfl) (jT 8 rfl (Val.loadSS rfl hA1 rfl) ?_)
   refine jT 9 rfl (Val.moveI rfl) (jT 10 rfl (Val.build (cs := [vi nd.id, .bool nd.grp, vi p, .slice none 0 0]) rfl) ?_)
   refine jT 11 rfl (jZ rfl rfl) (j5 12 rfl (WL.storeSl 2 rfl rfl rfl rfl (by show 0 + (i : Int).toNat * 4 + 4 ≤ B.cells.length * 4; rw [Int.toNat_natCast]; omega) ?_))
   refine WL.nSet ?_
   refine WL.rowNil 3 1 5 i rfl hrowB ?_
   refine WL.nSet ?_
   refine jC (j7 [1] rfl (j6 (jA (jB (j8 999 [1] rfl (jT 0 rfl (Val.moveP rfl) (jT 1 rfl (jr rfl) (jT 2 rfl (jn rfl) (jT 3 rfl (jp 0 rfl rfl rfl) (jT 4 rfl (jn rfl) (jT 5 rfl (Val.loadS rfl (Rd.imm (At.zero (by assumption) rfl))) ?_)))))))))))
   refine jT 6 rfl (Val.moveI rfl) (j5 7 rfl (WL.mapUpdate 4 rfl rfl rfl ?_))
   refine WL.nSet ?_
   refine jC (j7 [1] rfl (j6 (jA (jB (jS (jm (jn rfl) (jm (Val.loadSS rfl (by assumption) rfl) ?_)))))))
   refine jm (jo rfl) (ja rfl (jM (WC.block ?_)))
   try refine WL.val (Val.loadSS rfl hA1 rfl) rfl ?_
   skip
   refine WC.loop (fun m ρ' I2 L' => ∃ (k : Nat) (C : Ar), m = nd.kids.length - k ∧ k ≤ nd.kids.length ∧ I'.le I2 ∧ ρ' 0 = ptr C.b ∧ ρ' 7 = vi i ∧ ρ' 71 = .slice ka nd.kids.length kc ∧ ρ' 72 = vi nd.kids.length ∧ ρ' 73 = vi k ∧ L' = F :: C.hp ∧ Laid A C p i (.mk nd.id nd.grp (nd.kids.take k)))
    nd.kids.length ⟨0, B.own i nd.id nd.grp p, rfl, by omega, Mem.le.refl _, rfl, rfl, rfl, rfl, rfl, by rw [Ar.own_hp B i _ _ _ hiB]; rfl, hP.own _ _ _ hnid⟩ ?_
   rintro m ρ' I2 L' ⟨k, C, rfl, hk, hI2, h0, h7, h71, h72, h73, rfl, hC⟩
   refine ju5 h73 h72 h71 h7 h0 ?_
   by_cases hkn : k < nd.kids.length
   ·have hA' := hA.take (k + 1)
    have htk : nd.kids.take (k + 1) = nd.kids.take k ++ [nd.kids[k]] := take1 _ _ hkn
    rw [htk] at hA'
    have hnx := hC.next hA'
    obtain ⟨kb, ko, kcap, hke, kw, hAk, hkw, h64⟩ := NdAtB.kid (hkv1.mono hI2) k hkn
    injection hke with hke
    subst hke
    obtain ⟨wa, wc, rfl⟩ := hkw.sl
    have hbk := kid_sz hkn
    refine jS (jy rfl rfl (jM (jB (jF (jV (jA (jB (WC.block (jS (jm (jZ rfl rfl) (jm (Val.loadI rfl (by assumption) rfl) ?_)))))))))))
    refine WL.alloc rfl (fun _ => ?_)
    refine jW ?_
    refine WL.stA 6 rfl rfl rfl rfl ?_
    refine jN (jd rfl (jm (jt 6 rfl rfl rfl) (ja rfl (WL.conv (fun w h => h.sub [0, 0, 0, 0, 0, 0] rfl) ?_))))
    refine WL.callAll rfl rfl (ih _ (kid_lt hs hkn) C i _ I2 (by omega) hnx hkw) rfl ?_
    rintro v I3 L3 hI3 ⟨D, q, rfl, rfl, hD⟩
    obtain ⟨hiD, hL0⟩ := hC.kid (.slice none 0 0) hA' hD
    have hkl : (D.cells[i]).kids.length = k := by
     obtain ⟨h1, e⟩ := setKids_at D i ((D.cells[i]).kids ++ [(q : Int)]) (.slice none 0 0) hiD
     obtain ⟨_, _, _, _, h5⟩ := hL0.tr.ex
     have h6 : ((D.cells[i]).kids ++ [(q : Int)]).length = (nd.kids.take k ++ [nd.kids[k]]).length := by
      have := h5.len
      rw [e] at this
      exact this
     rw [List.length_append, List.length_append, List.length_take, List.length_singleton, List.length_singleton] at h6
     omega
    have hbD := hD.b
    have hc3 := Ar.c3 hiD
    have hrowD := Ar.row hiD
    rw [← hbD]
    refine jf rfl (jM (WC.rowOpen 5 i rfl hrowD fun ra rc hkvD _ => ?_))
    rw [hkvD] at hc3
    refine j8 18 [1, 1] rfl (jT 0 rfl (Val.moveP rfl) (jT 1 rfl (jr rfl) (jT 2 rfl (jn rfl) (jT 3 rfl (jp 0 rfl rfl rfl) (jT 4 rfl (Val.moveI rfl) (jT 5 rfl (Val.moveP rfl) (jT 6 rfl (jr rfl) (jT 7 rfl (jn rfl) (jT 8 rfl (jp 0 rfl rfl rfl) (jT 9 rfl (Val.moveI rfl) (jT 10 rfl (jZ rfl rfl) (jT 11 rfl (jn rfl) (jT 12 rfl (Val.loadS rfl (Rd.sl1 1 rfl hc3)) ?_)))))))))))))
    refine jT 13 rfl (Val.moveI rfl) (j5 14 rfl (WL.buildSlice (by with_unfolding_all exact rfl) rfl (by with_unfolding_all exact rfl) rfl (fun _ => ?_)))
    refine jW ?_
    refine jC (j7 [1, 1] rfl (j5 15 rfl (WL.rowTake 5 i rfl hrowD ?_)))
    refine WL.appI (l := (D.cells[i]).kids) (i := (q : Int)) 0 7 hkvD.symm rfl rfl rfl rfl (by omega) rfl fun ra2 rc2 => ?_
    refine WL.nSet ?_
    refine WL.rowPut 5 i rfl (by simpa using hiD) ?_
    refine WL.nSet ?_
    refine jC (j7 [1, 1] rfl (j5 16 rfl (jm (jZ rfl rfl) (jC (j7 [1, 1] rfl (j5 17 rfl (jm (jn rfl) (jC (j7 [1, 1] rfl (j5 18 rfl (WL.storeSl 2 rfl rfl rfl rfl (by show 0 + (i : Int).toNat * 4 + 3 + 1 ≤ D.cells.length * 4; rw [Int.toNat_natCast]; omega) ?_)))))))))))
    refine WL.nSet ?_
    refine jC (WK.anyLast (WA.done (by kernel_rfl) (WX.inNormal (jA (jD (jX rfl rfl (ja rfl (jC (WX.conv (fun w h => h.sub [0, 0, 0, 0, 0, 0] rfl) ?_)))))))))
    refine WX.thenK (WK.round (nd.kids.length - (k + 1)) (by omega) ⟨k + 1, D.setKids i ((D.cells[i]).kids ++ [(q : Int)]) (.slice ra2 ((D.cells[i]).kids ++ [(q : Int)]).length rc2), rfl, by omega, hI2.trans hI3, rfl, rfl, rfl, rfl, rfl, by rw [Ar.setKids_hp D i _ _ hiD]; rfl, ?_⟩)
    rw [htk]
    exact (hC.kid _ hA' hD).2
   ·have hJ := hI1.trans hI2
    refine jS (jx rfl rfl (jM (jB (jE (WC.exit (WX.thenExit (WX.thenExit (WX.inHit (jK (ja rfl (jf rfl (jM (jR ?_)))))))))))))
    refine jP [0, 0, 0, 0, 0] (jr1 rfl (jtI rfl)) ?_
    refine ⟨C, i, rfl, rfl, ?_⟩
    have : k = nd.kids.length := by omega
    subst this
    rw [List.take_length, Nd.eta] at hC
    exact hC
end Go.Proofs.YtggcpoleklcmkaaGreatDoor

namespace Go.Tr
open Go.Sl Go.Ls
structure CelOk (c : Cel) : Prop where
 par : I64 c.par
 id : I64 c.id
 kids : c.kids.length ≤ 1000000000
theorem CelOk.zero : CelOk zeroCel := ⟨⟨by decide, by decide⟩, ⟨by decide, by decide⟩, by decide⟩
theorem Ar.Ok.cel {A : Ar} (h : A.Ok) {c : Cel} (hc : c ∈ A.cells) : CelOk c := ⟨h.par c hc, h.id c hc, h.kidl c hc⟩
theorem Tr.cels (A : Ar) (hl : A.cells.length ≤ 1000000000) : (∀ (nd : Nd) (p : Int) (i : Nat), Tr A p i nd → I64 p → (∀ x ∈ nd.order, I64 x) → nd.size ≤ 1000000000 → ∀ j ∈ post A i nd, ∀ c, A.cells[j]? = some c → CelOk c) ∧
  (∀ (ns : List Nd) (p : Int) (l : List Int), Trs A p l ns → I64 p → (∀ x ∈ Nd.orders ns, I64 x) → Nd.sizes ns ≤ 1000000000 → ∀ j ∈ posts A l ns, ∀ c, A.cells[j]? = some c → CelOk c) := by
 refine Tr.ind (P := fun p i nd => I64 p → (∀ x ∈ nd.order, I64 x) → nd.size ≤ 1000000000 → ∀ j ∈ post A i nd, ∀ c, A.cells[j]? = some c → CelOk c)
  (Ps := fun p l ns => I64 p → (∀ x ∈ Nd.orders ns, I64 x) → Nd.sizes ns ≤ 1000000000 → ∀ j ∈ posts A l ns, ∀ c, A.cells[j]? = some c → CelOk c) ?_ ?_ ?_
 ·intro p i nd hi h1 h2 h3 h4 ih hp hx hs j hj c hc
  have hsz : nd.size = 1 + Nd.sizes nd.kids := by cases nd; rfl
  rw [(post_eq (Tr.mk hi h1 h2 h3 h4)).2] at hj
  rcases List.mem_append.1 hj with hj | hj
  ·exact ih ⟨by omega, by omega⟩ (fun x hm => hx x (by rw [Nd.order_eq]; exact List.mem_cons_of_mem _ hm)) (by omega) j hj c hc
  ·rw [List.mem_singleton] at hj
   subst hj
   rw [List.getElem?_eq_getElem hi] at hc
   injection hc with hc
   subst hc
   refine ⟨by rw [h3]; exact hp, by rw [h1]; exact hx _ (Nd.id_mem nd), ?_⟩
   rw [h4.len]
   have := Nd.len_le_sizes nd.kids
   omega
 ·intro p _ _ _ j hj
  simp [posts] at hj
 ·intro p q l n ns t1 t2 a b hp hx hs j hj c hc
  rw [Nd.sizes] at hs
  rw [posts_cons] at hj
  rcases List.mem_append.1 hj with hj | hj
  ·exact a hp (fun x hm => hx x (List.mem_append.2 (.inl hm))) (by omega) j hj c hc
  ·exact b hp (fun x hm => hx x (List.mem_append.2 (.inr hm))) (by omega) j hj c hc
theorem Abs.of {A : Ar} {top : Nd} (tr : Tr A (-1) 0 top) (od : top.order.Nodup) (nd : (post A 0 top ++ A.free.map Int.toNat).Nodup) (frb : ∀ x ∈ A.free, ∃ n : Nat, x = (n : Int) ∧ n < A.cells.length) (len : A.cells.length = top.size + A.free.length)
  (cap : A.cells.length ≤ 100000) (at_ : ∀ j ∈ post A 0 top, A.at_ (A.idAt j) = some (j : Int)) (atn : ∀ i, i ∉ top.order → A.at_ i = none) (cnt : A.cnt = top.size) (id0 : top.id = 0) (g0 : top.grp = true)
  (i64 : ∀ x ∈ top.order, I64 x) (rest : ∀ j c, A.cells[j]? = some c → j ∉ post A 0 top → CelOk c) : Abs A top := by
 have hc : ∀ c ∈ A.cells, CelOk c := fun c hc => by
  obtain ⟨j, hj⟩ := List.getElem?_of_mem hc
  by_cases hp : j ∈ post A 0 top
  ·exact (Tr.cels A (by omega)).1 top (-1) 0 tr ⟨by decide, by decide⟩ i64 (by omega) j hp c hj
  ·exact rest j c hj hp
 refine ⟨⟨by omega, fun i p h => ?_, fun c h => (hc c h).par, fun c h => (hc c h).id, fun c h => (hc c h).kids⟩, tr, od, nd, frb, len, cap, at_, atn, cnt, id0, g0⟩
 by_cases hi : i ∈ top.order
 ·obtain ⟨j, hj, e⟩ := tr.of_mem hi
  have := at_ j hj
  rw [e, h] at this
  injection this with this
  exact ⟨j, this, tr.lt j hj⟩
 ·rw [atn i hi] at h; cases h
theorem Abs.i64 {A : Ar} {top : Nd} (h : Abs A top) : ∀ x ∈ top.order, I64 x := fun x hx => by
 obtain ⟨j, hj, e⟩ := h.tr.of_mem hx
 have hlt := h.tr.lt j hj
 rw [← e, Ar.idAt_eq hlt]
 exact h.ok.id _ (List.getElem_mem hlt)
theorem Abs.cel {A : Ar} {top : Nd} (h : Abs A top) {j : Nat} {c : Cel} (hj : A.cells[j]? = some c) : CelOk c := h.ok.cel (List.mem_of_getElem? hj)
namespace Nd
theorem wrong_ok (top : Nd) (n : Nd) : ∀ (seen : List Int) (d : Int), (wrong top n seen d).1 = 0 → (wrong top n seen d).2 = seen ++ n.order ∧ (seen.Nodup → (seen ++ n.order).Nodup) ∧ ∀ x ∈ n.order, x ∉ top.order ∧ 1 ≤ x ∧ x ≤ 2147483648 := by
 refine Nd.rec (motive_1 := fun n => ∀ (seen : List Int) (d : Int), (wrong top n seen d).1 = 0 → (wrong top n seen d).2 = seen ++ n.order ∧ (seen.Nodup → (seen ++ n.order).Nodup) ∧ ∀ x ∈ n.order, x ∉ top.order ∧ 1 ≤ x ∧ x ≤ 2147483648)
  (motive_2 := fun l => ∀ (seen : List Int) (d : Int), (wrongs top l seen d).1 = 0 → (wrongs top l seen d).2 = seen ++ orders l ∧ (seen.Nodup → (seen ++ orders l).Nodup) ∧ ∀ x ∈ orders l, x ∉ top.order ∧ 1 ≤ x ∧ x ≤ 2147483648) ?_ ?_ ?_ n
 ·intro i g ks ih seen d h
  simp only [wrong] at h ⊢
  by_cases h1 : i < 1 ∨ 2147483648 < i
  ·rw [if_pos h1] at h; exact absurd h (by show ¬ (30 : Int) = 0; decide)
  rw [if_neg h1] at h ⊢
  by_cases h2 : (find i top).isSome = true
  ·rw [if_pos h2] at h; exact absurd h (by show ¬ (32 : Int) = 0; decide)
  rw [if_neg h2] at h ⊢
  by_cases h3 : i ∈ seen
  ·rw [if_pos h3] at h; exact absurd h (by show ¬ (32 : Int) = 0; decide)
  rw [if_neg h3] at h ⊢
  by_cases h4 : g = false ∧ 0 < ks.length
  ·rw [if_pos h4] at h; exact absurd h (by show ¬ (33 : Int) = 0; decide)
  rw [if_neg h4] at h ⊢
  by_cases h5 : 64 < d
  ·rw [if_pos h5] at h; exact absurd h (by show ¬ (35 : Int) = 0; decide)
  rw [if_neg h5] at h ⊢
  obtain ⟨a, b, c⟩ := ih _ _ h
  rw [List.append_assoc] at a b
  refine ⟨a, fun hs => b ?_, fun x hx => ?_⟩
  ·rw [List.nodup_append]
   exact ⟨hs, by simp, fun x hx y hy e => h3 (by rw [List.mem_singleton] at hy; rw [← hy, ← e]; exact hx)⟩
  ·rw [order, List.mem_cons] at hx
   rcases hx with rfl | hx
   ·exact ⟨fun hm => h2 ((find_some _ _).2 hm), by omega, by omega⟩
   ·exact c x hx
 ·intro seen d _
  simp [wrongs, orders]
 ·intro k ks h1 h2 seen d h
  simp only [wrongs] at h ⊢
  by_cases hk : (wrong top k seen d).1 = 0
  ·rw [if_pos hk] at h ⊢
   obtain ⟨a1, b1, c1⟩ := h1 _ _ hk
   obtain ⟨a2, b2, c2⟩ := h2 _ _ h
   rw [a1] at a2 b2
   rw [List.append_assoc] at a2 b2
   refine ⟨by rw [a1]; exact a2, fun hs => b2 (b1 hs), fun x hx => ?_⟩
   rw [orders, List.mem_append] at hx
   exact hx.elim (c1 x) (c2 x)
  ·rw [if_neg hk] at h; exact absurd h hk
theorem fits_ok {top n : Nd} {d : Int} (h : fits top n d = 0) : n.order.Nodup ∧ (∀ x ∈ n.order, x ∉ top.order ∧ 1 ≤ x ∧ x ≤ 2147483648) ∧ top.size + n.size ≤ 65537 := by
 rw [fits] at h
 by_cases h1 : 65536 < (top.size : Int) - 1 + n.size
 ·rw [if_pos h1] at h; cases h
 ·rw [if_neg h1] at h
  obtain ⟨_, b, c⟩ := wrong_ok top n [] d h
  have := b List.nodup_nil
  rw [List.nil_append] at this
  exact ⟨this, c, by omega⟩
end Nd
section
variable {A : Ar} {top : Nd}
theorem Foc.size {p : Int} {i q : Nat} {nd np : Nd} {qp : Int} {R : List Nat} {RO : List Int} (f : Foc A p i nd q qp np R RO) : nd.size = np.size + RO.length := by
 have := f.order.length_eq
 rwa [List.length_append, Nd.order_len, Nd.order_len] at this
theorem Foc.notR {p : Int} {i q : Nat} {nd np : Nd} {qp : Int} {R : List Nat} {RO : List Int} (f : Foc A p i nd q qp np R RO) (hn : (post A i nd).Nodup) : q ∉ R := f.dis hn (self_post A q np)
theorem Foc.posts_dis {p : Int} {i q : Nat} {nd np : Nd} {qp : Int} {R : List Nat} {RO : List Int} (f : Foc A p i nd q qp np R RO) (hn : (post A i nd).Nodup) : ∃ hq : q < A.cells.length, post A q np = posts A (A.cells[q]).kids np.kids ++ [q] ∧ (posts A (A.cells[q]).kids np.kids).Nodup ∧ q ∉ posts A (A.cells[q]).kids np.kids := by
 obtain ⟨hq, e⟩ := post_eq f.tr
 have h1 := (List.nodup_append.1 (f.perm.nodup_iff.1 hn)).1
 rw [e] at h1
 exact ⟨hq, e, (List.nodup_append.1 h1).1, fun hm => dis_of_nodup h1 hm (List.mem_singleton.2 rfl)⟩
theorem Abs.layOk (h : Abs A top) {n : Nd} (ho : n.order.Nodup) (hx : ∀ x ∈ n.order, x ∉ top.order) (hs : n.size ≤ 1000000) : LayOk A n := by
 have := h.cap
 have := h.len
 exact ⟨h.frb, (List.nodup_append.1 h.nd).2.1, ho, fun k hk => h.atn k (hx k hk), by omega, by omega⟩
theorem perm_mid {α : Type} (a b c : List α) : (a ++ b ++ c).Perm (a ++ c ++ b) := by
 rw [List.append_assoc, List.append_assoc]; exact List.perm_append_comm.append_left _
theorem Abs.add (h : Abs A top) {q : Nat} {qp : Int} {np : Nd} {R : List Nat} {RO : List Int} (f : Foc A (-1) 0 top q qp np R RO) {n : Nd} (ho : n.order.Nodup) (hx : ∀ x ∈ n.order, x ∉ top.order ∧ I64 x) (hsz : top.size + n.size ≤ 65537)
  {B : Ar} {i k : Nat} (hk : k ≤ np.kids.length) (hL : Laid A B (q : Int) i n) (kv : Value) :
  ∃ hq : q < B.cells.length, ∃ hqA : q < A.cells.length, B.cells[q] = A.cells[q] ∧ Abs (B.setKids q ((B.cells[q]).kids.take k ++ [(i : Int)] ++ (B.cells[q]).kids.drop k) kv) (Nd.with_ np.id (np.kids.take k ++ (n :: np.kids.drop k)) top) := by
 have hpn := h.pnd
 obtain ⟨hqA, hpq, hps, hqp⟩ := f.posts_dis hpn
 have hlay := h.layOk ho (fun x hm => (hx x hm).1) (by omega)
 have hnB := hL.nodup hlay.frb hlay.fnd
 -- the old places are not the new ones
 have hold : ∀ j ∈ post A 0 top, j ∉ post B i n := fun j hj hm => by
  rcases mem_news.1 (hL.perm.mem_iff.1 (List.mem_append.2 (.inl hm))) with hf | hr
  ·exact dis_of_nodup h.nd hj hf
  ·have := h.tr.lt j hj; omega
 have hBA : ∀ j ∈ post A 0 top, B.cells[j]? = A.cells[j]? := fun j hj => hL.out j (h.tr.lt j hj) (hold j hj)
 have hqm : q ∈ post A 0 top := f.mem (self_post A q np)
 have hqB : q < B.cells.length := Nat.lt_of_lt_of_le hqA hL.le
 have heq : B.cells[q] = A.cells[q] := by
  have := hBA q hqm
  rw [List.getElem?_eq_getElem hqA, List.getElem?_eq_getElem hqB] at this; injection this
 refine ⟨hqB, hqA, heq, ?_⟩
 rw [heq]
 obtain ⟨hqD, eD⟩ := setKids_at B q ((A.cells[q]).kids.take k ++ [(i : Int)] ++ (A.cells[q]).kids.drop k) kv hqB
 generalize hDD : B.setKids q ((A.cells[q]).kids.take k ++ [(i : Int)] ++ (A.cells[q]).kids.drop k) kv = D at *
 have hDne : ∀ j, j ≠ q → D.cells[j]? = B.cells[j]? := fun j hj => by rw [← hDD]; exact setKids_ne _ _ _ _ hj
 have hDid : ∀ j, D.idAt j = B.idAt j := fun j => by rw [← hDD]; exact setKids_id _ _ _ _ _
 have hDlen : D.cells.length = B.cells.length := by rw [← hDD]; exact Ar.setKids_len _ _ _ _
 have hDfree : D.free = B.free := by rw [← hDD]; rfl
 have hDat : D.at_ = B.at_ := by rw [← hDD]; rfl
 have hDcnt : D.cnt = B.cnt := by rw [← hDD]; rfl
 have hDA : ∀ j ∈ post A 0 top, j ≠ q → D.cells[j]? = A.cells[j]? := fun j hj hne => (hDne j hne).trans (hBA j hj)
 obtain ⟨_, hid, hgr, hpar, hks⟩ := f.tr.ex
 obtain ⟨s1, s2, s3⟩ := Trs.split k hks
 have hin : ∀ j ∈ posts A (A.cells[q]).kids np.kids, j ∈ post A 0 top := fun j hj => f.mem (by rw [hpq]; exact List.mem_append.2 (.inl hj))
 have hne : ∀ j ∈ posts A (A.cells[q]).kids np.kids, j ≠ q := fun j hj e => hqp (e ▸ hj)
 obtain ⟨t1, u1⟩ := Trs.keep (A' := D) _ _ s1 (fun j hj => hDA j (hin j (by rw [s3]; exact List.mem_append.2 (.inl hj))) (hne j (by rw [s3]; exact List.mem_append.2 (.inl hj))))
 obtain ⟨t2, u2⟩ := Trs.keep (A' := D) _ _ s2 (fun j hj => hDA j (hin j (by rw [s3]; exact List.mem_append.2 (.inr hj))) (hne j (by rw [s3]; exact List.mem_append.2 (.inr hj))))
 obtain ⟨tn, un⟩ := Tr.keep (A' := D) n _ i hL.tr (fun j hj => hDne j (fun e => hold q hqm (e ▸ hj)))
 have htq : Tr D qp q (.mk np.id np.grp (np.kids.take k ++ (n :: np.kids.drop k))) := by
  refine Tr.mk hqD (by rw [eD]; show (B.cells[q]).id = np.id; rw [heq]; exact hid) (by rw [eD]; show (B.cells[q]).grp = np.grp; rw [heq]; exact hgr) (by rw [eD]; show (B.cells[q]).par = qp; rw [heq]; exact hpar) ?_
  rw [eD]
  show Trs D (q : Int) ((A.cells[q]).kids.take k ++ [(i : Int)] ++ (A.cells[q]).kids.drop k) (np.kids.take k ++ (n :: np.kids.drop k))
  rw [List.append_assoc]
  exact t1.app (Trs.cons tn t2)
 have hpq' : post D q (.mk np.id np.grp (np.kids.take k ++ (n :: np.kids.drop k))) = posts A ((A.cells[q]).kids.take k) (np.kids.take k) ++ (post B i n ++ posts A ((A.cells[q]).kids.drop k) (np.kids.drop k)) ++ [q] := by
  rw [(post_eq htq).2, eD]
  show posts D ((A.cells[q]).kids.take k ++ [(i : Int)] ++ (A.cells[q]).kids.drop k) (np.kids.take k ++ (n :: np.kids.drop k)) ++ [q] = _
  rw [List.append_assoc, posts_app D _ _ s1.len, u1]
  show _ ++ posts D ((i : Int) :: (A.cells[q]).kids.drop k) (n :: np.kids.drop k) ++ [q] = _
  rw [posts_cons, un, u2]
 obtain ⟨htr0, hperm0⟩ := f.with_ D (.mk np.id np.grp (np.kids.take k ++ (n :: np.kids.drop k))) rfl rfl htq (fun j hj => hDA j (f.memR hj) (fun e => f.notR hpn (e ▸ hj)))
 have htr : Tr D (-1) 0 (Nd.with_ np.id (np.kids.take k ++ (n :: np.kids.drop k)) top) := htr0
 have hperm : (post D 0 (Nd.with_ np.id (np.kids.take k ++ (n :: np.kids.drop k)) top)).Perm (post D q (.mk np.id np.grp (np.kids.take k ++ (n :: np.kids.drop k))) ++ R) := hperm0
 have hord : (Nd.with_ np.id (np.kids.take k ++ (n :: np.kids.drop k)) top).order.Perm ((Nd.mk np.id np.grp (np.kids.take k ++ (n :: np.kids.drop k))).order ++ RO) := f.order' (.mk np.id np.grp (np.kids.take k ++ (n :: np.kids.drop k))) rfl rfl
 have hwid := with_id np.id (np.kids.take k ++ (n :: np.kids.drop k)) top
 -- places
 have hP : (post D 0 (Nd.with_ np.id (np.kids.take k ++ (n :: np.kids.drop k)) top)).Perm (post A 0 top ++ post B i n) := by
  refine hperm.trans ?_
  rw [hpq']
  have e1 : (posts A ((A.cells[q]).kids.take k) (np.kids.take k) ++ (post B i n ++ posts A ((A.cells[q]).kids.drop k) (np.kids.drop k)) ++ [q]).Perm (post A q np ++ post B i n) := by
   rw [hpq, s3]
   simp only [List.append_assoc]
   refine List.Perm.append_left _ ?_
   refine (List.perm_append_comm (l₁ := post B i n) (l₂ := posts A ((A.cells[q]).kids.drop k) (np.kids.drop k) ++ [q])).trans ?_
   rw [List.append_assoc]
  refine (e1.append_right _).trans ((perm_mid _ _ _).trans ?_)
  exact f.perm.symm.append_right _
 have hO : (Nd.with_ np.id (np.kids.take k ++ (n :: np.kids.drop k)) top).order.Perm (top.order ++ n.order) := by
  refine hord.trans ?_
  have e1 : (Nd.mk np.id np.grp (np.kids.take k ++ (n :: np.kids.drop k))).order.Perm (np.order ++ n.order) := by
   rw [Nd.order, Nd.orders_app, Nd.orders, Nd.order_eq np]
   have : Nd.orders np.kids = Nd.orders (np.kids.take k) ++ Nd.orders (np.kids.drop k) := by rw [← Nd.orders_app, List.take_append_drop]
   rw [this, List.cons_append]
   refine List.Perm.cons _ ?_
   rw [List.append_assoc]
   exact List.Perm.append_left _ List.perm_append_comm
  refine (e1.append_right _).trans ((perm_mid _ _ _).trans ?_)
  exact f.order.symm.append_right _
 have hS : (Nd.with_ np.id (np.kids.take k ++ (n :: np.kids.drop k)) top).size = top.size + n.size := by
  have := hO.length_eq
  rwa [List.length_append, Nd.order_len, Nd.order_len, Nd.order_len] at this
 have hsl := hL.size_le
 refine Abs.of htr ?_ ?_ ?_ ?_ ?_ ?_ ?_ ?_ (hwid.1.trans h.id0) (hwid.2.trans h.g0) ?_ ?_
 ·rw [hO.nodup_iff, List.nodup_append]
  exact ⟨h.od, ho, fun a ha b hb e => (hx b hb).1 (e ▸ ha)⟩
 ·rw [hDfree]
  have e2 : (post D 0 (Nd.with_ np.id (np.kids.take k ++ (n :: np.kids.drop k)) top) ++ B.free.map Int.toNat).Perm (post A 0 top ++ news A B) := by
   refine (hP.append_right _).trans ?_
   rw [List.append_assoc]
   exact hL.perm.append_left _
  rw [e2.nodup_iff, List.nodup_append]
  refine ⟨hpn, news_nodup hlay.frb hlay.fnd, fun a ha b hb e => ?_⟩
  subst e
  rcases mem_news.1 hb with hf | hr
  ·exact dis_of_nodup h.nd ha hf
  ·have := h.tr.lt a ha; omega
 ·rw [hDfree, hDlen]
  intro x hm
  obtain ⟨m, e, hm⟩ := h.frb x (hL.frs x hm)
  exact ⟨m, e, Nat.lt_of_lt_of_le hm hL.le⟩
 ·rw [hDlen, hDfree, hS]
  have := h.len
  omega
 ·rw [hDlen]
  -- no more places than nodes, or as many as there were
  have h1 := hL.perm.length_eq
  rw [List.length_append, List.length_append, List.length_map, List.length_map, List.length_range', hL.tr.len] at h1
  have h2 := h.len
  have h3 := h.cap
  rcases hL.grow with hg | hg
  ·omega
  ·rw [hg] at hsl
   simp only [List.length_nil] at hsl
   omega
 ·intro j hj
  rw [hDat, hDid]
  rcases List.mem_append.1 (hP.mem_iff.1 hj) with hj | hj
  ·rw [Ar.idAt_congr (hBA j hj), hL.atn, h.at_ j hj]
   exact fun hm => (hx _ hm).1 (h.tr.mem hj)
  ·exact hL.at_ j hj
 ·intro x hm
  have hm2 := fun e => hm (hO.mem_iff.2 e)
  rw [hDat, hL.atn x (fun e => hm2 (List.mem_append.2 (.inr e))), h.atn x (fun e => hm2 (List.mem_append.2 (.inl e)))]
 ·rw [hDcnt, hL.cnt, h.cnt, hS]
 ·intro x hm
  rcases List.mem_append.1 (hO.mem_iff.1 hm) with hm | hm
  ·exact h.i64 x hm
  ·exact (hx x hm).2
 ·intro j c hj hn
  have hn2 := fun e => hn (hP.mem_iff.2 e)
  have hjB : j ∉ post B i n := fun e => hn2 (List.mem_append.2 (.inr e))
  have hjq : j ≠ q := fun e => hn2 (List.mem_append.2 (.inl (e ▸ hqm)))
  rw [hDne j hjq] at hj
  by_cases hjl : j < A.cells.length
  ·rw [hL.out j hjl hjB] at hj
   exact h.cel hj
  ·exfalso
   have hjl2 : j < B.cells.length := by
    rcases Nat.lt_or_ge j B.cells.length with h | h
    ·exact h
    ·rw [List.getElem?_eq_none h] at hj; cases hj
   have : j ∈ news A B := mem_news.2 (.inr ⟨by omega, by have := hL.le; omega⟩)
   rcases List.mem_append.1 (hL.perm.mem_iff.2 this) with e | e
   ·exact hjB e
   ·obtain ⟨x, hxm, rfl⟩ := List.mem_map.1 e
    obtain ⟨m, e2, hm⟩ := h.frb x (hL.frs x hxm)
    rw [e2] at hjl
    simp at hjl
    omega
end
end Go.Tr

namespace Go.Tr
open Go.Sl Go.Ls
section
variable {A : Ar} {top : Nd}
theorem Abs.grp (h : Abs A top) (i : Int) : (A.grp i = (0, 31) ∧ Nd.find i top = none) ∨ (∃ (q : Nat) (qp : Int) (np : Nd) (R : List Nat) (RO : List Int) (hq : q < A.cells.length), A.at_ i = some (q : Int) ∧ q ∈ post A 0 top ∧ np.id = i ∧ Nd.find i top = some np ∧ Foc A (-1) 0 top q qp np R RO ∧ (A.cells[q]).grp = np.grp ∧ A.grp i = if np.grp = true then ((q : Int), 0) else (0, 33)) := by
 rcases h.cases i with ⟨e, hn⟩ | ⟨q, e, hq, hid, hm⟩
 ·refine .inl ⟨by rw [Ar.grp, e], Nd.find_none _ _ hn⟩
 ·obtain ⟨qp, np, R, RO, f⟩ := h.foc hq
  obtain ⟨hql, h1, h2, _⟩ := f.tr.ex
  have hnp : np.id = i := by rw [← f.id, hid]
  refine .inr ⟨q, qp, np, R, RO, hql, e, hq, hnp, by rw [← hnp]; exact f.find, f, h2, ?_⟩
  simp only [Ar.grp, e, Int.toNat_natCast, List.getElem?_eq_getElem hql, Option.map_some, h2, Option.getD_some]
end
end Go.Tr
namespace Go.Proofs.YtggcpoleklcmkaaGreatDoor
open Go.Sl Go.Ls Go.Tr
attribute [local irreducible] WC WL WX WK WA WAK Val Ctr RunRes ResIs Rd At sl box pt Exit.then Exit.inBlock bodyPost Code.wp wpList
def RetA (A : Ar) (r : Nd × Int) : Value → Mem → List HP → Prop := fun v I' L' => v = vi r.2 ∧ ∃ B, B.b = A.b ∧ L' = B.hp ∧ Abs B r.1
theorem tAdd (A : Ar) (top : Nd) (hA : Abs A top) (nd : Nd) (kv : Value) (parent index : Int) (I : Mem) (hb : nd.size ≤ 1000000) (hid : I64 nd.id) (hkv : LsAt Nd.Rp I nd.kids kv) :
  Ctr Tryz.prog 109 [ptr A.b, vi parent, vi index, .agg #[vi nd.id, .bool nd.grp, kv]] I A.hp (RetA A (Nd.add top parent index nd)) := by
 obtain ⟨ka, kc, rfl⟩ := hkv.sl
 have hsle := hA.size_le
 refine Ctr.intro Tryz.func109 rfl rfl rfl fun E F => ?_
 refine jS (WL.boxA rfl rfl (fun _ => ?_))
 refine jW ?_
 refine jf rfl (jN (jd rfl (ja rfl ?_)))
 rename_i g7
 refine WL.boxFrz 6 rfl fun I1 hI1 hA1 => ?_
 have hkv1 := hkv.mono hI1
 refine WL.callK [1, 1, 1, 1, 1] rfl rfl rfl (tGroup A parent _ hA.ok) rfl ?_
 rintro _ rfl
 rcases hA.grp parent with ⟨hg, hfn⟩ | ⟨q, qp, np, R, RO, hql, hat, hqm, hnp, hfind, f, hcg, hg⟩
 ·rw [hg]
  refine je rfl (jm (jq rfl rfl) (jm (jq rfl rfl) (jf rfl (jf rfl (jM (jB (jS (ja rfl (jJ rfl rfl (jM (jF (jS (ja rfl (jf rfl (jM (jR (jU ?_)))))))))))))))))
  refine jP [0, 0, 0, 0, 0] (jr1 rfl (jtI rfl)) ?_
  rw [Nd.add, hfn]
  exact ⟨rfl, A, rfl, rfl, hA⟩
 rw [hg]
 cases hng : np.grp
 ·skip
  refine je rfl (jm (jq rfl rfl) (jm (jq rfl rfl) (jf rfl (jf rfl (jM (jB (jS (ja rfl (jm (Val.neq rfl rfl rfl) ?_)))))))))
  refine jM (jF (jS (ja rfl (jf rfl (jM (jR (jU ?_)))))))
  refine jP [0, 0, 0, 0, 0] (jr1 rfl (jtI rfl)) ?_
  rw [Nd.add, hfind]
  simp only [hng, if_true]
  exact ⟨rfl, A, rfl, rfl, hA⟩
 have hks := f.tr.ex
 obtain ⟨_, hcid, _, hpar, hks⟩ := hks
 have hlk := hks.len
 have hc3 := Ar.c3 hql
 have hnps := f.size
 have hnpl := Nd.len_le_sizes np.kids
 have hnpz := sizes_lt np
 refine WL.rowOpen 5 q rfl (Ar.row hql) fun ra rc hkvq _ => ?_
 rw [hkvq, hlk] at hc3
 simp only [if_true]
 by_cases h0 : index < 0
 ·skip
  refine je rfl (jm (jq rfl rfl) (jm (jq rfl rfl) (jf rfl (jf rfl (jM (jB (jS (ja rfl (jz rfl rfl (jM (jE (jV (jA (jB (jS (ja rfl (jy rfl rfl (jb rfl (jH (jH (jH (jH (jH (jH (jH (jH (jH (jH (jH (jk rfl (jM (jF (jS (jf rfl (jM (jR (jU ?_)))))))))))))))))))))))))))))))))))))
  refine jP [0, 0, 0, 0, 0] (jr1 rfl (jtI rfl)) ?_
  rw [Nd.add, hfind]
  simp only [hng, Bool.true_eq_false, if_false]
  rw [if_pos (.inl h0)]
  exact ⟨rfl, A, rfl, rfl, hA⟩
 obtain ⟨k, rfl⟩ := Int.eq_ofNat_of_zero_le (by omega : 0 ≤ index)
 by_cases h1 : np.kids.length < k
 ·skip
  refine je rfl (jm (jq rfl rfl) (jm (jq rfl rfl) (jf rfl (jf rfl (jM (jB (jS (ja rfl (jz rfl rfl (jM (jE (jV (jA (jB (jS (ja rfl (jx rfl rfl (jb rfl (jG (ja rfl (jG (jd rfl (jG (jm (jr rfl) (jG (jm (jn rfl) (jG (jm (jp 1 rfl rfl rfl) (jG (ja rfl (jG (jm (jZ rfl rfl) (jG (jm (jn rfl) (jG (jm (Val.loadS rfl (Rd.sl1 2 rfl (by assumption))) ?_))))))))))))))))))))))))))))))))))))
  refine jG (jm (jo rfl) (jG (jO rfl rfl (jk rfl (jM (jF (jS (jf rfl (jM (jR (jU ?_)))))))))))
  refine jP [0, 0, 0, 0, 0] (jr1 rfl (jtI rfl)) ?_
  rw [Nd.add, hfind]
  simp only [hng, Bool.true_eq_false, if_false]
  rw [if_pos (.inr (by omega))]
  exact ⟨rfl, A, rfl, rfl, hA⟩
 have hn01 : ¬ ((k : Int) < 0 ∨ (np.kids.length : Int) < (k : Int)) := by omega
 obtain ⟨l, hl, hdep, hlp⟩ := hA.up hqm
 have hid2 : A.idAt q = parent := by rw [f.id, hnp]
 rw [hid2] at hdep
 have hdle := (Nd.depth_le parent top).1
 refine je rfl (jm (jq rfl rfl) (jm (jq rfl rfl) (jf rfl (jf rfl (jM (jB (jS (ja rfl (jz rfl rfl (jM (jE (jV (jA (jB (jS (ja rfl (jx rfl rfl (jb rfl (jG (ja rfl (jG (jd rfl (jG (jm (jr rfl) (jG (jm (jn rfl) (jG (jm (jp 1 rfl rfl rfl) (jG (ja rfl (jG (jm (jZ rfl rfl) (jG (jm (jn rfl) (jG (jm (Val.loadS rfl (Rd.sl1 2 rfl (by assumption))) ?_))))))))))))))))))))))))))))))))))))
 refine jG (jm (jo rfl) (jG (jL rfl rfl (jk rfl (jM (jE (jV (jA (jB (jB (j8 999 [] rfl (jT 0 rfl (Val.moveP rfl) (jT 1 rfl (Val.loadI rfl (by assumption) rfl) ?_)))))))))))))
 refine jT 2 rfl (Val.moveP rfl) (jT 3 rfl (Val.moveI rfl) (j5 4 rfl (WL.callK [1, 1, 1, 1, 1] rfl rfl rfl (tDepthP A q l _ hA.ok hl (by omega)) rfl ?_)))
 rintro _ rfl
 refine jC (j7 [] rfl (jT 5 rfl (Val.add rfl rfl (wrap_i64 (by omega) (by omega))) ?_))
 refine j5 6 rfl (WL.callR [1, 1, 1, 1, 1] rfl rfl rfl (tFits A top hA nd _ _ _ (by omega) hid hkv1 (by omega) (by omega)) rfl ?_)
 rintro _ I2 hI2 rfl
 refine jC (j9 [] (hI2) rfl (jT 7 rfl (Val.assignI rfl) (j6 ?_)))
 have hJ := hI1.trans hI2
 have hA2 := hA1.mono hI2
 rw [← hdep]
 by_cases he : Nd.fits top nd (Nd.depth parent top + 1) = 0
 case neg =>
  refine jK (ja rfl (jJ rfl rfl (jM (jF (jS (ja rfl (jf rfl (jM (jR (jU ?_))))))))))
  refine jP [0, 0, 0, 0, 0] (jr1 rfl (jtI rfl)) ?_
  rw [Nd.add, hfind]
  simp only [hng, Bool.true_eq_false, if_false]
  rw [if_neg hn01, if_pos he]
  exact ⟨rfl, A, rfl, rfl, hA⟩
 rw [he]
 obtain ⟨ho, hx, hsz⟩ := Nd.fits_ok he
 refine jK (ja rfl (jz rfl rfl (jM (jE (jV (jK (jd rfl (jm (Val.loadI rfl (by assumption) rfl) ?_))))))))
 refine ja rfl (WL.callAll rfl rfl (tLay _ nd (Nat.le_refl _) A q _ _ (by omega) (hA.layOk ho (fun x hm => (hx x hm).1) (by omega)) (hkv1.mono hI2)) rfl ?_)
 rintro _ I3 L3 hI3 ⟨B, i, rfl, rfl, hL⟩
 have hx2 : ∀ x ∈ nd.order, x ∉ top.order ∧ I64 x := fun x hm => ⟨(hx x hm).1, by have := (hx x hm).2; exact ⟨by omega, by omega⟩⟩
 have hkn : k ≤ np.kids.length := by omega
 obtain ⟨hqB, _, heqB, _⟩ := hA.add f ho hx2 hsz hkn hL (.slice none 0 0)
 have hbB := hL.b
 rw [← hbB]
 have hc3B := Ar.c3 hqB
 have hrowB := Ar.row hqB
 have hklB : (B.cells[q]).kids.length = np.kids.length := by rw [heqB, hlk]
 have hJ3 := hJ.trans hI3
 refine jf rfl (jM (jB (WC.rowOpen 5 q rfl hrowB fun rb rd hkvB _ => ?_)))
 rw [hkvB] at hc3B hrowB
 refine j8 19 [1, 1] rfl (jT 0 rfl (Val.moveP rfl) (jT 1 rfl (jr rfl) (jT 2 rfl (jn rfl) (jT 3 rfl (jp 0 rfl rfl rfl) (jT 4 rfl (Val.moveI rfl) (jT 5 rfl (Val.moveP rfl) (jT 6 rfl (jr rfl) (jT 7 rfl (jn rfl) (jT 8 rfl (jp 0 rfl rfl rfl) (jT 9 rfl (Val.moveI rfl) (jT 10 rfl (jZ rfl rfl) (jT 11 rfl (jn rfl) (jT 12 rfl (Val.loadS rfl (Rd.sl1 1 rfl hc3B)) ?_)))))))))))))
 refine jT 13 rfl (Val.moveI rfl) (jT 14 rfl (Val.moveI rfl) (j5 15 rfl (WL.buildSlice (by with_unfolding_all exact rfl) rfl (by with_unfolding_all exact rfl) rfl (fun _ => ?_))))
 rename_i g8
 refine jW ?_
 refine jC (j7 [1, 1] rfl (j5 16 rfl (WL.rowTake 5 q rfl hrowB ?_)))
 refine WL.boxSl (xs := [vi (i : Int)]) (n := 1) (sz := 1) 7 rfl rfl (by decide) ?_
 refine WL.callP [0, 6] rfl rfl (sInsert (B.cells[q]).kids [(i : Int)] k (.slice rb (B.cells[q]).kids.length rd) (.slice (some ⟨g8, 0, none⟩) 1 1) _ (by omega) Nat.zero_lt_one (by rw [hklB]; simp only [List.length_singleton]; omega)) rfl ?_
 rintro rv _ _ hI4 ⟨rfl, rfl⟩
 refine jW ?_
 have hlen : ((B.cells[q]).kids.take k ++ [(i : Int)] ++ (B.cells[q]).kids.drop k).length = (B.cells[q]).kids.length + [(i : Int)].length := by
  simp only [List.length_append, List.length_take, List.length_drop]; omega
 rw [← hlen]
 refine WL.conv (fun w h => h.sub [6, 0, 0, 0, 0, 0, 0] rfl) ?_
 refine WL.rowPut 5 q rfl (by simpa using hqB) ?_
 refine WL.nSet ?_
 refine WL.rowOpen 5 q rfl (List.getElem?_set_self (by simpa using hqB)) fun ra2 rc2 hr _ => ?_
 subst hr
 refine jC (j7 [1, 1] rfl (j5 17 rfl (jm (jZ rfl rfl) (jC (j7 [1, 1] rfl (j5 18 rfl (jm (jn rfl) (jC (j7 [1, 1] rfl (j5 19 rfl (WL.storeSl 2 rfl rfl rfl rfl (by show 0 + (q : Int).toNat * 4 + 3 + 1 ≤ B.cells.length * 4; rw [Int.toNat_natCast]; omega) ?_)))))))))))
 refine WL.nSet ?_
 refine jC (WK.anyLast (WA.done (by kernel_rfl) (jK (jf rfl (jM (jR ?_))))))
 refine jP [0, 0, 0, 0, 0] (jr1 rfl (jtI rfl)) ?_
 obtain ⟨_, _, _, hAbs⟩ := hA.add f ho hx2 hsz hkn hL (.slice ra2 ((B.cells[q]).kids.take k ++ [(i : Int)] ++ (B.cells[q]).kids.drop k).length rc2)
 rw [Nd.add, hfind]
 simp only [hng, Bool.true_eq_false, if_false]
 rw [if_neg hn01, if_neg (by rw [he]; decide), ← hnp]
 refine ⟨rfl, _, ?_, ?_, hAbs⟩
 ·exact hbB
 ·rw [Ar.setKids_hp B q _ _ hqB]; rfl
end Go.Proofs.YtggcpoleklcmkaaGreatDoor

namespace Go.Tr
open Go.Sl Go.Ls
theorem Nd.ext3 {a b : Nd} (h1 : a.id = b.id) (h2 : a.grp = b.grp) (h3 : a.kids = b.kids) : a = b := by
 cases a; cases b
 simp only [Nd.id, Nd.grp, Nd.kids] at h1 h2 h3
 rw [h1, h2, h3]
theorem Tr.uniq2 (A : Ar) : (∀ (nd : Nd) (p : Int) (i : Nat), Tr A p i nd → ∀ (p' : Int) (nd' : Nd), Tr A p' i nd' → nd = nd') ∧ (∀ (ns : List Nd) (p : Int) (l : List Int), Trs A p l ns → ∀ (p' : Int) (ns' : List Nd), Trs A p' l ns' → ns = ns') := by
 refine Tr.ind (P := fun p i nd => ∀ (p' : Int) (nd' : Nd), Tr A p' i nd' → nd = nd') (Ps := fun p l ns => ∀ (p' : Int) (ns' : List Nd), Trs A p' l ns' → ns = ns') ?_ ?_ ?_
 ·intro p i nd hi h1 h2 h3 h4 ih p' nd' h'
  obtain ⟨_, k1, k2, k3, k4⟩ := h'.ex
  exact Nd.ext3 (h1.symm.trans k1) (h2.symm.trans k2) (ih _ _ k4)
 ·intro p p' ns' h'
  cases ns' with
  | nil => rfl
  | cons _ _ => rw [Trs] at h'; exact h'.elim
 ·intro p q l n ns t1 t2 a b p' ns' h'
  cases ns' with
  | nil => rw [Trs] at h'; exact h'.elim
  | cons n' ns' =>
   rw [Trs] at h'
   obtain ⟨⟨r, e, t1'⟩, t2'⟩ := h'
   have : r = q := by omega
   subst this
   rw [a _ _ t1', b _ _ t2']
theorem Tr.uniq {A : Ar} {p p' : Int} {i : Nat} {nd nd' : Nd} (h : Tr A p i nd) (h' : Tr A p' i nd') : nd = nd' := (Tr.uniq2 A).1 nd p i h p' nd' h'
theorem drop_eq {α : Type} {l : List α} {k : Nat} (h : k < l.length) : l.drop k = l[k] :: l.drop (k + 1) := List.drop_eq_getElem_cons h
section
variable {A : Ar} {top : Nd}
theorem Abs.node (h : Abs A top) {i : Nat} (hi : i ∈ post A 0 top) (h0 : i ≠ 0) : ∃ (y k : Nat) (yp : Int) (ny n : Nd) (R : List Nat) (RO : List Int) (hk : k < ny.kids.length),
  Lies A i y k ∧ Foc A (-1) 0 top y yp ny R RO ∧ ny.kids[k] = n ∧ Tr A (y : Int) i n ∧ n.id = A.idAt i ∧ Nd.find (A.idAt i) top = some n ∧ Nd.whr (A.idAt i) top = some (ny.id, (k : Int)) ∧ Nd.find ny.id top = some ny ∧
  Nd.remove top (A.idAt i) = (Nd.with_ ny.id (ny.kids.take k ++ ny.kids.drop (k + 1)) top, n, ny.id, (k : Int), 0) := by
 obtain ⟨y, hy, k, hlies, hw⟩ := h.whr hi h0
 obtain ⟨yp, ny, R, RO, f⟩ := h.foc hy
 have hl := hlies
 obtain ⟨hil, hyl, hpar, e2, e3⟩ := hl
 obtain ⟨_, _, _, _, hks⟩ := f.tr.ex
 have hkk : k < (A.cells[y]).kids.length := (List.getElem?_eq_some_iff.1 e2).1
 have hk : k < ny.kids.length := by rw [← hks.len]; exact hkk
 obtain ⟨q, hq, htq⟩ := hks.get k hkk hk
 have : q = i := by
  rw [List.getElem?_eq_getElem hkk, hq] at e2
  injection e2 with e2
  omega
 subst this
 obtain ⟨ip, n', R', RO', f'⟩ := h.foc hi
 have hnn : n' = ny.kids[k] := f'.tr.uniq htq
 have hidn : ny.kids[k].id = A.idAt q := by rw [htq.idAt]
 have hyid : A.idAt y = ny.id := f.id
 rw [hyid] at hw
 have hfi : Nd.find (A.idAt q) top = some ny.kids[k] := by rw [← hnn, f'.id]; exact f'.find
 refine ⟨y, k, yp, ny, ny.kids[k], R, RO, hk, hlies, f, rfl, htq, hidn, hfi, hw, f.find, ?_⟩
 have hne : A.idAt q ≠ 0 := fun e => h0 ((h.ne0 hi).1 e)
 rw [Nd.remove, if_neg hne, hfi]
 simp only [hw, f.find, Int.toNat_natCast]
structure Cutted (A B : Ar) (top top1 : Nd) (i : Nat) (n : Nd) (y : Nat) : Prop where
 tr : Tr B (-1) 0 top1
 trn : Tr B (y : Int) i n
 pn : post B i n = post A i n
 perm : (post B 0 top1 ++ post A i n).Perm (post A 0 top)
 order : (top1.order ++ n.order).Perm top.order
 id0 : top1.id = top.id
 g0 : top1.grp = top.grp
 len : B.cells.length = A.cells.length
 free : B.free = A.free
 at_ : B.at_ = A.at_
 cnt : B.cnt = A.cnt
 idAt : ∀ j, B.idAt j = A.idAt j
 out : ∀ j, j ≠ y → B.cells[j]? = A.cells[j]?
 y1 : y ∈ post B 0 top1
 y0 : y ∈ post A 0 top
theorem Abs.cut (h : Abs A top) {i y k : Nat} {yp : Int} {ny n : Nd} {R : List Nat} {RO : List Int} (hl : Lies A i y k) (f : Foc A (-1) 0 top y yp ny R RO) (hk : k < ny.kids.length) (hn : ny.kids[k] = n) (ht : Tr A (y : Int) i n) (kv : Value) :
  ∃ hy : y < A.cells.length, Cutted A (A.setKids y ((A.cells[y]).kids.take k ++ (A.cells[y]).kids.drop (k + 1)) kv) top (Nd.with_ ny.id (ny.kids.take k ++ ny.kids.drop (k + 1)) top) i n y := by
 have hpn := h.pnd
 obtain ⟨hyA, hpy, hps, hyp⟩ := f.posts_dis hpn
 refine ⟨hyA, ?_⟩
 obtain ⟨hil, _, _, e2, e3⟩ := hl
 obtain ⟨_, hid, hgr, hpar, hks⟩ := f.tr.ex
 have hkk : k < (A.cells[y]).kids.length := by rw [hks.len]; exact hk
 have hki : (A.cells[y]).kids[k] = (i : Int) := by
  rw [List.getElem?_eq_getElem hkk] at e2; injection e2
 obtain ⟨hyD, eD⟩ := setKids_at A y ((A.cells[y]).kids.take k ++ (A.cells[y]).kids.drop (k + 1)) kv hyA
 generalize hDD : A.setKids y ((A.cells[y]).kids.take k ++ (A.cells[y]).kids.drop (k + 1)) kv = D at *
 have hDne : ∀ j, j ≠ y → D.cells[j]? = A.cells[j]? := fun j hj => by rw [← hDD]; exact setKids_ne _ _ _ _ hj
 obtain ⟨s1, s2, s3⟩ := Trs.split k hks
 rw [drop_eq hkk, drop_eq hk, hki, hn] at s2 s3
 rw [posts_cons] at s3
 have s2' : Trs A (y : Int) ((A.cells[y]).kids.drop (k + 1)) (ny.kids.drop (k + 1)) := by rw [Trs] at s2; exact s2.2
 have hne : ∀ j ∈ posts A (A.cells[y]).kids ny.kids, j ≠ y := fun j hj e => hyp (e ▸ hj)
 obtain ⟨t1, u1⟩ := Trs.keep (A' := D) _ _ s1 (fun j hj => hDne j (hne j (by rw [s3]; exact List.mem_append.2 (.inl hj))))
 obtain ⟨t2, u2⟩ := Trs.keep (A' := D) _ _ s2' (fun j hj => hDne j (hne j (by rw [s3]; exact List.mem_append.2 (.inr (List.mem_append.2 (.inr hj))))))
 obtain ⟨tn, un⟩ := Tr.keep (A' := D) n _ i ht (fun j hj => hDne j (hne j (by rw [s3]; exact List.mem_append.2 (.inr (List.mem_append.2 (.inl hj))))))
 have htq : Tr D yp y (.mk ny.id ny.grp (ny.kids.take k ++ ny.kids.drop (k + 1))) := by
  refine Tr.mk hyD (by rw [eD]; exact hid) (by rw [eD]; exact hgr) (by rw [eD]; exact hpar) ?_
  rw [eD]
  exact t1.app t2
 have hpq' : post D y (.mk ny.id ny.grp (ny.kids.take k ++ ny.kids.drop (k + 1))) = posts A ((A.cells[y]).kids.take k) (ny.kids.take k) ++ posts A ((A.cells[y]).kids.drop (k + 1)) (ny.kids.drop (k + 1)) ++ [y] := by
  rw [(post_eq htq).2, eD]
  show posts D ((A.cells[y]).kids.take k ++ (A.cells[y]).kids.drop (k + 1)) (ny.kids.take k ++ ny.kids.drop (k + 1)) ++ [y] = _
  rw [posts_app D _ _ s1.len, u1, u2]
 obtain ⟨htr0, hperm0⟩ := f.with_ D (.mk ny.id ny.grp (ny.kids.take k ++ ny.kids.drop (k + 1))) rfl rfl htq (fun j hj => hDne j (fun e => f.notR hpn (e ▸ hj)))
 have htr : Tr D (-1) 0 (Nd.with_ ny.id (ny.kids.take k ++ ny.kids.drop (k + 1)) top) := htr0
 have hperm : (post D 0 (Nd.with_ ny.id (ny.kids.take k ++ ny.kids.drop (k + 1)) top)).Perm (post D y (.mk ny.id ny.grp (ny.kids.take k ++ ny.kids.drop (k + 1))) ++ R) := hperm0
 have hord : (Nd.with_ ny.id (ny.kids.take k ++ ny.kids.drop (k + 1)) top).order.Perm ((Nd.mk ny.id ny.grp (ny.kids.take k ++ ny.kids.drop (k + 1))).order ++ RO) := f.order' (.mk ny.id ny.grp (ny.kids.take k ++ ny.kids.drop (k + 1))) rfl rfl
 have hwid := with_id ny.id (ny.kids.take k ++ ny.kids.drop (k + 1)) top
 refine ⟨htr, tn, un, ?_, ?_, hwid.1, hwid.2, by rw [← hDD]; exact Ar.setKids_len _ _ _ _, by rw [← hDD]; rfl, by rw [← hDD]; rfl, by rw [← hDD]; rfl, fun j => by rw [← hDD]; exact setKids_id _ _ _ _ _, hDne, ?_, f.mem (self_post A y ny)⟩
 ·refine (hperm.append_right _).trans (List.Perm.trans ?_ f.perm.symm)
  rw [hpq', hpy, s3]
  refine (perm_mid _ _ _).trans (List.Perm.append_right _ ?_)
  simp only [List.append_assoc]
  refine List.Perm.append_left _ ?_
  rw [← List.append_assoc, ← List.append_assoc]
  exact List.perm_append_comm.trans (by rw [List.append_assoc])
 ·refine (hord.append_right _).trans (List.Perm.trans ?_ f.order.symm)
  refine (perm_mid _ _ _).trans (List.Perm.append_right _ ?_)
  have : Nd.orders ny.kids = Nd.orders (ny.kids.take k) ++ (n.order ++ Nd.orders (ny.kids.drop (k + 1))) := by
   rw [← hn]
   show _ = Nd.orders (ny.kids.take k) ++ Nd.orders (ny.kids[k] :: ny.kids.drop (k + 1))
   rw [← drop_eq hk, ← Nd.orders_app, List.take_append_drop]
  rw [Nd.order, Nd.orders_app, Nd.order_eq ny, this, List.cons_append]
  refine List.Perm.cons _ ?_
  rw [List.append_assoc]
  exact List.Perm.append_left _ List.perm_append_comm
 ·exact hperm.mem_iff.2 (List.mem_append.2 (.inl (self_post D y _)))
theorem Cutted.od {A B : Ar} {top top1 : Nd} {i y : Nat} {n : Nd} (c : Cutted A B top top1 i n y) (h : Abs A top) : top1.order.Nodup ∧ n.order.Nodup ∧ ∀ x ∈ top1.order, x ∉ n.order := by
 have := c.order.nodup_iff.2 h.od
 exact ⟨(List.nodup_append.1 this).1, (List.nodup_append.1 this).2.1, fun x hx => dis_of_nodup this hx⟩
theorem Cutted.pd {A B : Ar} {top top1 : Nd} {i y : Nat} {n : Nd} (c : Cutted A B top top1 i n y) (h : Abs A top) : (post B 0 top1).Nodup ∧ (post A i n).Nodup ∧ ∀ x ∈ post B 0 top1, x ∉ post A i n := by
 have := c.perm.nodup_iff.2 h.pnd
 exact ⟨(List.nodup_append.1 this).1, (List.nodup_append.1 this).2.1, fun x hx => dis_of_nodup this hx⟩
theorem Cutted.size {A B : Ar} {top top1 : Nd} {i y : Nat} {n : Nd} (c : Cutted A B top top1 i n y) : top1.size + n.size = top.size := by
 have := c.order.length_eq
 rwa [List.length_append, Nd.order_len, Nd.order_len, Nd.order_len] at this
theorem Abs.remove (h : Abs A top) {B C : Ar} {top1 n : Nd} {i y : Nat} (c : Cutted A B top top1 i n y) (hD : Drops B C (post B i n) n.order) : Abs C top1 := by
 obtain ⟨od1, od2, od3⟩ := c.od h
 obtain ⟨pd1, pd2, pd3⟩ := c.pd h
 rw [c.pn] at hD
 have hout : ∀ j ∈ post B 0 top1, C.cells[j]? = B.cells[j]? := fun j hj => hD.d.out j (pd3 j hj)
 obtain ⟨htC, hpC⟩ := Tr.keep (A' := C) top1 _ 0 c.tr hout
 have hlen : C.cells.length = A.cells.length := hD.d.len.trans c.len
 have hfree : C.free = A.free ++ (post A i n).map (fun (n : Nat) => (n : Int)) := by rw [hD.d.free, c.free]
 have hfm : C.free.map Int.toNat = A.free.map Int.toNat ++ post A i n := by
  rw [hfree, List.map_append, List.map_map]
  congr 1
  exact (List.map_congr_left (g := _root_.id) (fun x _ => by simp)).trans (List.map_id _)
 have hsz := c.size
 have hmem : ∀ j ∈ post B 0 top1, j ∈ post A 0 top := fun j hj => c.perm.mem_iff.1 (List.mem_append.2 (.inl hj))
 have hmemn : ∀ j ∈ post A i n, j ∈ post A 0 top := fun j hj => c.perm.mem_iff.1 (List.mem_append.2 (.inr hj))
 have hAlen : (post A i n).length = n.size := by rw [← c.pn]; exact c.trn.len
 refine Abs.of htC od1 ?_ ?_ ?_ (by rw [hlen]; exact h.cap) ?_ ?_ ?_ (c.id0.trans h.id0) (c.g0.trans h.g0) ?_ ?_
 ·rw [hpC, hfm]
  have e : (post B 0 top1 ++ (A.free.map Int.toNat ++ post A i n)).Perm (post A 0 top ++ A.free.map Int.toNat) := by
   refine List.Perm.trans ?_ (c.perm.append_right _)
   rw [List.append_assoc]
   exact List.Perm.append_left _ List.perm_append_comm
  exact e.nodup_iff.2 h.nd
 ·rw [hlen, hfree]
  intro x hx
  rcases List.mem_append.1 hx with hx | hx
  ·exact h.frb x hx
  ·obtain ⟨m, hm, rfl⟩ := List.mem_map.1 hx
   exact ⟨m, rfl, h.tr.lt m (hmemn m hm)⟩
 ·rw [hlen, hfree, List.length_append, List.length_map, hAlen]
  have := h.len
  omega
 ·rw [hpC]
  intro j hj
  have e1 : C.idAt j = A.idAt j := (Ar.idAt_congr (hout j hj)).trans (c.idAt j)
  have hm : A.idAt j ∈ top1.order := by rw [← c.idAt j]; exact c.tr.mem hj
  rw [e1, hD.at_, if_neg (od3 _ hm), c.at_]
  exact h.at_ j (hmem j hj)
 ·intro x hx
  rw [hD.at_, c.at_]
  by_cases hxn : x ∈ n.order
  ·rw [if_pos hxn]
  ·rw [if_neg hxn]
   refine h.atn x fun hm => ?_
   rcases List.mem_append.1 (c.order.mem_iff.2 hm) with e | e
   ·exact hx e
   ·exact hxn e
 ·have := hD.cnt
  rw [Nd.order_len, c.cnt, h.cnt] at this
  omega
 ·exact fun x hx => h.i64 x (c.order.mem_iff.1 (List.mem_append.2 (.inl hx)))
 ·rw [hpC]
  intro j cc hj hn
  by_cases hjn : j ∈ post A i n
  ·have hl := h.tr.lt j (hmemn j hjn)
   rw [hD.d.inn j hjn (by rw [c.len]; exact hl)] at hj
   injection hj with hj
   subst hj
   exact CelOk.zero
  ·rw [hD.d.out j hjn, c.out j (fun e => hn (e ▸ c.y1))] at hj
   exact h.cel hj
end
end Go.Tr

namespace Go.Proofs.YtggcpoleklcmkaaGreatDoor
open Go.Sl Go.Ls Go.Tr
attribute [local irreducible] WC WL WX WK WA WAK Val Ctr RunRes ResIs Rd At sl box pt Exit.then Exit.inBlock bodyPost Code.wp wpList
def RetAR (A : Ar) (r : Nd × Nd × Int × Int × Int) : Value → Mem → List HP → Prop := fun v I' L' => ∃ nv B, v = .tuple #[nv, vi r.2.2.1, vi r.2.2.2.1, vi r.2.2.2.2] ∧ NdAt r.2.1 nv I' ∧ B.b = A.b ∧ L' = B.hp ∧ Abs B r.1
theorem tRemove (A : Ar) (top : Nd) (hA : Abs A top) (i : Int) (I : Mem) :
  Ctr Tryz.prog 111 [ptr A.b, vi i] I A.hp (RetAR A (Nd.remove top i)) := by
 have hsle := hA.size_le
 have hcap := hA.cap
 refine Ctr.intro Tryz.func111 rfl rfl rfl fun E F => ?_
 refine jS (WL.alloc rfl (fun _ => ?_))
 refine jW ?_
 refine jf rfl (jf rfl (jf rfl (jN (jd rfl (ja rfl ?_)))))
 rename_i g4
 refine WL.callK [1, 1, 1, 1, 1] rfl rfl rfl (tInner A i _) rfl ?_
 rintro _ rfl
 by_cases h0 : i = 0
 ·rw [if_pos h0]
  refine je rfl (jm (jq rfl rfl) (jm (jq rfl rfl) (jf rfl (jf rfl (jM (jB (jS (ja rfl (jJ rfl rfl (jM (jF (jS (jm (Val.build0) ?_)))))))))))))
  refine ja rfl (WL.stA 6 rfl rfl rfl rfl ?_)
  refine jf rfl (jf rfl (jf rfl (jM (jR (jU ?_)))))
  refine jP [0, 0, 0, 0, 0] (RunRes.r4 rfl (jcL 6 rfl rfl rfl) (jtI rfl) (jtI rfl) (jtI rfl)) ?_
  rw [Nd.remove, if_pos h0]
  exact ⟨_, A, rfl, ⟨_, rfl, LsAt.nil _ _, i64_0⟩, rfl, rfl, hA⟩
 rw [if_neg h0]
 rcases hA.cases i with ⟨hat, hn⟩ | ⟨q, hat, hq, hid, hm⟩
 ·rw [hat]
  simp only
  refine je rfl (jm (jq rfl rfl) (jm (jq rfl rfl) (jf rfl (jf rfl (jM (jB (jS (ja rfl (jJ rfl rfl (jM (jF (jS (jm (Val.build0) ?_)))))))))))))
  refine ja rfl (WL.stA 6 rfl rfl rfl rfl ?_)
  refine jf rfl (jf rfl (jf rfl (jM (jR (jU ?_)))))
  refine jP [0, 0, 0, 0, 0] (RunRes.r4 rfl (jcL 6 rfl rfl rfl) (jtI rfl) (jtI rfl) (jtI rfl)) ?_
  rw [Nd.remove, if_neg h0, Nd.find_none _ _ hn]
  exact ⟨_, A, rfl, ⟨_, rfl, LsAt.nil _ _, i64_0⟩, rfl, rfl, hA⟩
 rw [hat]
 simp only
 have hq0 : q ≠ 0 := fun e => h0 (by rw [← hid]; exact (hA.ne0 hq).2 e)
 obtain ⟨y, k, yp, ny, n, R, RO, hk, hlies, f, hkn, htq, hidn, hfind, hwhr, hfy, hrem⟩ := hA.node hq hq0
 have hl := hlies
 obtain ⟨hql, hyl, hpar, e2, e3⟩ := hl
 have hc := Ar.c2 hql
 rw [hpar] at hc
 have hc0 := Ar.c0 hyl
 have hyid : (A.cells[y]).id = ny.id := by rw [← Ar.idAt_eq hyl]; exact f.id
 rw [hyid] at hc0
 have hns : n.size ≤ top.size := by
  have := (hA.cut hlies f hk hkn htq (.slice none 0 0)).2.size
  omega
 refine je rfl (jm (jq rfl rfl) (jm (jq rfl rfl) (jf rfl (jf rfl (jM (jB (jS (ja rfl (jz rfl rfl (jM (jE (jV (jK (jd rfl (ja rfl (WL.callR [1, 1, 1, 1, 1] rfl rfl rfl (tNode A hA.ok _ n (Nat.le_refl _) _ _ _ (by omega) htq) rfl ?_))))))))))))))))
 rintro _ I1 hI1 ⟨kw, rfl, hw, hiw⟩
 obtain ⟨a3, c3, rfl⟩ := hw.sl
 refine WL.stA 6 rfl rfl rfl rfl ?_
 refine jM (jB (j8 999 [1, 1] rfl (jT 0 rfl (Val.moveP rfl) (jT 1 rfl (jr rfl) (jT 2 rfl (jn rfl) (jT 3 rfl (jp 0 rfl rfl rfl) (jT 4 rfl (Val.moveP rfl) (jT 5 rfl (jr rfl) (jT 6 rfl (jn rfl) (jT 7 rfl (jp 0 rfl rfl rfl) (jT 8 rfl (Val.moveI rfl) (jT 9 rfl (jZ rfl rfl) (jT 10 rfl (jn rfl) (jT 11 rfl (Val.loadS rfl (Rd.sl1 1 rfl hc)) ?_))))))))))))))
 refine jT 12 rfl (jZ rfl rfl) (jT 13 rfl (jn rfl) (jT 14 rfl (Val.loadS rfl (Rd.sl1 1 rfl hc0)) ?_))
 refine jT 15 rfl (Val.assignI rfl) (j6 (jK (jd rfl (ja rfl (WL.callP [1, 1, 1, 1, 1] rfl rfl (tCut A q y k _ hA.ok hql hpar hyl e2 e3) rfl ?_)))))
 rintro _ _ _ hI2 ⟨rfl, rfl, kv, rfl⟩
 obtain ⟨_, hcut⟩ := hA.cut hlies f hk hkn htq kv
 generalize hBB : A.setKids y ((A.cells[y]).kids.take k ++ (A.cells[y]).kids.drop (k + 1)) kv = B at *
 have hBb : B.b = A.b := by rw [← hBB]; rfl
 rw [← hBb]
 obtain ⟨_, od2, _⟩ := hcut.od hA
 refine jW ?_
 refine WL.conv (fun w h => h.sub [0, 1, 1, 1, 1, 1, 0] rfl) ?_
 refine jf rfl (jN (jd rfl (ja rfl ?_)))
 refine WL.callP [1, 1, 1, 1, 1] rfl rfl (tDrop _ n (Nat.le_refl _) B _ q _ (by omega) (by rw [hcut.len]; omega) (by rw [hcut.free]; have := hA.len; omega) hcut.trn od2 (fun x hx => ?_) (by rw [hcut.cnt, hA.cnt]; exact hns)) rfl ?_
 ·rw [hcut.at_, hA.at_iff]
  exact hcut.order.mem_iff.1 (List.mem_append.2 (.inr hx))
 rintro _ _ _ hI3 ⟨rfl, C, rfl, hD⟩
 refine jW ?_
 refine WL.conv (fun w h => h.sub [0, 1, 1, 1, 1, 1, 0] rfl) ?_
 refine jN (jm (jt 6 rfl rfl rfl) (ja rfl (ja rfl (WL.stA 6 rfl rfl rfl rfl ?_))))
 refine jf rfl (jf rfl (jf rfl (jM (jR ?_))))
 refine jP [0, 0, 0, 0, 0] (RunRes.r4 rfl (jcL 6 rfl rfl rfl) (jtI rfl) (jtI rfl) (jtI rfl)) ?_
 rw [← hid, hrem]
 refine ⟨_, C, rfl, ⟨_, rfl, hw, hiw⟩, hD.d.b.trans hBb, rfl, hA.remove hcut hD⟩
end Go.Proofs.YtggcpoleklcmkaaGreatDoor

namespace Go.Tr
open Go.Sl Go.Ls
def Ar.setPar (A : Ar) (q : Nat) (p : Int) : Ar := { A with cells := A.cells.modify q fun c => { c with par := p } }
theorem setPar_get (A : Ar) (q : Nat) (p : Int) (j : Nat) : (A.setPar q p).cells[j]? = if q = j then (A.cells[j]?).map (fun c => { c with par := p }) else A.cells[j]? := by
 rw [Ar.setPar, List.getElem?_modify]
 by_cases h : q = j
 ·rw [if_pos h]; simp [h]
 ·rw [if_neg h]; simp [h]
theorem setPar_len (A : Ar) (q : Nat) (p : Int) : (A.setPar q p).cells.length = A.cells.length := by simp [Ar.setPar]
theorem Ar.setPar_hp (A : Ar) (q : Nat) (p : Int) (hq : q < A.cells.length) : (A.setPar q p).hp = [box A.b 145 [A.cv, A.fv, .map (some A.mb)], sl 191 4 A.cv A.cells.length (splice A.flat (0 + (q : Int).toNat * 4 + 2) [vi p]), sl 3 1 A.fv A.free.length (A.free.map vi), mp A.mb A.look A.cnt, sts (A.cells.map Cel.row)] := by
 have h1 : (A.setPar q p).flat = splice A.flat (0 + (q : Int).toNat * 4 + 2) [vi p] := by
  rw [Nat.zero_add, Int.toNat_natCast, Ar.flat, Ar.flat, flat_splice (by decide) _ A.flat_len q 2 [vi p] (by simpa using hq) (by simp)]
  congr 1
  rw [Ar.setPar]
  simp only [modify_set hq, List.map_set, List.getElem_map]
  rfl
 have h2 : (A.setPar q p).cells.map Cel.row = A.cells.map Cel.row := by
  rw [Ar.setPar]
  simp only [modify_set hq, List.map_set]
  apply List.ext_getElem?
  intro j
  rw [List.getElem?_set]
  by_cases hj : q = j
  ·subst hj
   simp [hq]; rfl
  ·rw [if_neg hj]
 have h3 := setPar_len A q p
 simp only [Ar.hp, Ar.cv, h1, h2, h3]
 rfl
theorem Tr.repar {A C : Ar} {p p' : Int} {q : Nat} {n : Nd} (h : Tr A p q n) (hn : (post A q n).Nodup) (hq : C.cells[q]? = (A.cells[q]?).map (fun c => { c with par := p' })) (ho : ∀ j ∈ post A q n, j ≠ q → C.cells[j]? = A.cells[j]?) : Tr C p' q n ∧ post C q n = post A q n := by
 obtain ⟨hi, h1, h2, h3, h4⟩ := h.ex
 obtain ⟨_, e⟩ := post_eq h
 rw [e] at hn ho
 have hi' : q < C.cells.length := by
  rcases Nat.lt_or_ge q C.cells.length with g | g
  ·exact g
  ·rw [List.getElem?_eq_none g, List.getElem?_eq_getElem hi] at hq; cases hq
 have he : C.cells[q] = { A.cells[q] with par := p' } := by
  rw [List.getElem?_eq_getElem hi', List.getElem?_eq_getElem hi] at hq; injection hq
 obtain ⟨k1, k2⟩ := Trs.keep (A' := C) _ _ h4 (fun j hj => ho j (List.mem_append.2 (.inl hj)) (fun e => dis_of_nodup hn hj (by rw [e]; exact List.mem_singleton.2 rfl)))
 have ht : Tr C p' q n := Tr.mk hi' (by rw [he]; exact h1) (by rw [he]; exact h2) (by rw [he]) (by rw [he]; exact k1)
 refine ⟨ht, ?_⟩
 rw [(post_eq ht).2, e, he, k2]
theorem Ch.keep {A C : Ar} {i : Nat} {l : List Nat} (h : Ch A i l) (hl : C.cells.length = A.cells.length) (hp : ∀ j (h1 : j < A.cells.length) (h2 : j < C.cells.length), (C.cells[j]).par = (A.cells[j]).par) : Ch C i l := by
 induction h with
 | top hi h => exact Ch.top (by rw [hl]; exact hi) (by rw [hp _ hi]; exact h)
 | up hi h _ ih => exact Ch.up (by rw [hl]; exact hi) (by rw [hp _ hi]; exact h) ih
section
variable {A : Ar} {top : Nd}
theorem Abs.graft (h : Abs A top) {B C : Ar} {top1 n qn : Nd} {i y p k : Nat} {pp : Int} {R : List Nat} {RO : List Int} (c : Cutted A B top top1 i n y) (f : Foc B (-1) 0 top1 p pp qn R RO) (hk : k ≤ qn.kids.length)
  (hlen : C.cells.length = B.cells.length) (hfree : C.free = B.free) (hat : C.at_ = B.at_) (hcnt : C.cnt = B.cnt) (kv : Value)
  (hCi : C.cells[i]? = (B.cells[i]?).map (fun c => { c with par := (p : Int) })) (hpl : p < B.cells.length) (hCp : C.cells[p]? = some { B.cells[p] with kids := (B.cells[p]).kids.take k ++ [(i : Int)] ++ (B.cells[p]).kids.drop k, kv := kv })
  (hCo : ∀ j, j ≠ i → j ≠ p → C.cells[j]? = B.cells[j]?) : Abs C (Nd.with_ qn.id (qn.kids.take k ++ (n :: qn.kids.drop k)) top1) := by
 obtain ⟨od1, od2, od3⟩ := c.od h
 obtain ⟨pd1, pd2, pd3⟩ := c.pd h
 have hpm : p ∈ post B 0 top1 := f.mem (self_post B p qn)
 have hii : i ∈ post A i n := self_post A i n
 have hiB : ∀ j ∈ post B 0 top1, j ≠ i := fun j hj e => pd3 j hj (e ▸ hii)
 have hpi : p ≠ i := hiB p hpm
 obtain ⟨_, hpp, hps, hpnot⟩ := f.posts_dis pd1
 obtain ⟨_, hid, hgr, hpar, hks⟩ := f.tr.ex
 obtain ⟨s1, s2, s3⟩ := Trs.split k hks
 have hin : ∀ j ∈ posts B (B.cells[p]).kids qn.kids, j ∈ post B 0 top1 := fun j hj => f.mem (by rw [hpp]; exact List.mem_append.2 (.inl hj))
 have hst : ∀ j ∈ posts B (B.cells[p]).kids qn.kids, C.cells[j]? = B.cells[j]? := fun j hj => hCo j (hiB j (hin j hj)) (fun e => hpnot (e ▸ hj))
 obtain ⟨t1, u1⟩ := Trs.keep (A' := C) _ _ s1 (fun j hj => hst j (by rw [s3]; exact List.mem_append.2 (.inl hj)))
 obtain ⟨t2, u2⟩ := Trs.keep (A' := C) _ _ s2 (fun j hj => hst j (by rw [s3]; exact List.mem_append.2 (.inr hj)))
 have hnotp : ∀ j ∈ post B i n, j ≠ p := fun j hj e => pd3 p hpm (by rw [← c.pn]; exact e ▸ hj)
 obtain ⟨tn, un⟩ := Tr.repar (C := C) (p' := (p : Int)) c.trn (by rw [c.pn]; exact pd2) hCi (fun j hj hne => hCo j hne (hnotp j hj))
 have hpl' : p < C.cells.length := by rw [hlen]; exact hpl
 have eC : C.cells[p] = { B.cells[p] with kids := (B.cells[p]).kids.take k ++ [(i : Int)] ++ (B.cells[p]).kids.drop k, kv := kv } := by
  rw [List.getElem?_eq_getElem hpl'] at hCp; injection hCp
 have htq : Tr C pp p (.mk qn.id qn.grp (qn.kids.take k ++ (n :: qn.kids.drop k))) := by
  refine Tr.mk hpl' (by rw [eC]; exact hid) (by rw [eC]; exact hgr) (by rw [eC]; exact hpar) ?_
  rw [eC]
  show Trs C (p : Int) ((B.cells[p]).kids.take k ++ [(i : Int)] ++ (B.cells[p]).kids.drop k) (qn.kids.take k ++ (n :: qn.kids.drop k))
  rw [List.append_assoc]
  exact t1.app (Trs.cons tn t2)
 have hpq' : post C p (.mk qn.id qn.grp (qn.kids.take k ++ (n :: qn.kids.drop k))) = posts B ((B.cells[p]).kids.take k) (qn.kids.take k) ++ (post A i n ++ posts B ((B.cells[p]).kids.drop k) (qn.kids.drop k)) ++ [p] := by
  rw [(post_eq htq).2, eC]
  show posts C ((B.cells[p]).kids.take k ++ [(i : Int)] ++ (B.cells[p]).kids.drop k) (qn.kids.take k ++ (n :: qn.kids.drop k)) ++ [p] = _
  rw [List.append_assoc, posts_app C _ _ s1.len, u1]
  show _ ++ posts C ((i : Int) :: (B.cells[p]).kids.drop k) (n :: qn.kids.drop k) ++ [p] = _
  rw [posts_cons, un, u2, c.pn]
 obtain ⟨htr0, hperm0⟩ := f.with_ C (.mk qn.id qn.grp (qn.kids.take k ++ (n :: qn.kids.drop k))) rfl rfl htq (fun j hj => hCo j (hiB j (f.memR hj)) (fun e => f.notR pd1 (e ▸ hj)))
 have htr : Tr C (-1) 0 (Nd.with_ qn.id (qn.kids.take k ++ (n :: qn.kids.drop k)) top1) := htr0
 have hperm : (post C 0 (Nd.with_ qn.id (qn.kids.take k ++ (n :: qn.kids.drop k)) top1)).Perm (post C p (.mk qn.id qn.grp (qn.kids.take k ++ (n :: qn.kids.drop k))) ++ R) := hperm0
 have hord : (Nd.with_ qn.id (qn.kids.take k ++ (n :: qn.kids.drop k)) top1).order.Perm ((Nd.mk qn.id qn.grp (qn.kids.take k ++ (n :: qn.kids.drop k))).order ++ RO) := f.order' (.mk qn.id qn.grp (qn.kids.take k ++ (n :: qn.kids.drop k))) rfl rfl
 have hwid := with_id qn.id (qn.kids.take k ++ (n :: qn.kids.drop k)) top1
 have hP : (post C 0 (Nd.with_ qn.id (qn.kids.take k ++ (n :: qn.kids.drop k)) top1)).Perm (post A 0 top) := by
  refine List.Perm.trans ?_ c.perm
  refine hperm.trans ?_
  rw [hpq']
  have e1 : (posts B ((B.cells[p]).kids.take k) (qn.kids.take k) ++ (post A i n ++ posts B ((B.cells[p]).kids.drop k) (qn.kids.drop k)) ++ [p]).Perm (post B p qn ++ post A i n) := by
   rw [hpp, s3]
   simp only [List.append_assoc]
   refine List.Perm.append_left _ ?_
   refine (List.perm_append_comm (l₁ := post A i n) (l₂ := posts B ((B.cells[p]).kids.drop k) (qn.kids.drop k) ++ [p])).trans ?_
   rw [List.append_assoc]
  refine (e1.append_right _).trans ((perm_mid _ _ _).trans ?_)
  exact f.perm.symm.append_right _
 have hO : (Nd.with_ qn.id (qn.kids.take k ++ (n :: qn.kids.drop k)) top1).order.Perm top.order := by
  refine List.Perm.trans ?_ c.order
  refine hord.trans ?_
  have e1 : (Nd.mk qn.id qn.grp (qn.kids.take k ++ (n :: qn.kids.drop k))).order.Perm (qn.order ++ n.order) := by
   rw [Nd.order, Nd.orders_app, Nd.orders, Nd.order_eq qn]
   have : Nd.orders qn.kids = Nd.orders (qn.kids.take k) ++ Nd.orders (qn.kids.drop k) := by rw [← Nd.orders_app, List.take_append_drop]
   rw [this, List.cons_append]
   refine List.Perm.cons _ ?_
   rw [List.append_assoc]
   exact List.Perm.append_left _ List.perm_append_comm
  refine (e1.append_right _).trans ((perm_mid _ _ _).trans ?_)
  exact f.order.symm.append_right _
 have hS : (Nd.with_ qn.id (qn.kids.take k ++ (n :: qn.kids.drop k)) top1).size = top.size := by
  have := hO.length_eq
  rwa [Nd.order_len, Nd.order_len] at this
 have hCid : ∀ j, C.idAt j = A.idAt j := fun j => by
  rw [← c.idAt j]
  by_cases hji : j = i
  ·subst hji
   rw [Ar.idAt, Ar.idAt, hCi]
   cases B.cells[j]? <;> rfl
  ·by_cases hjp : j = p
   ·subst hjp
    rw [Ar.idAt, Ar.idAt, hCp, List.getElem?_eq_getElem hpl]; rfl
   ·exact Ar.idAt_congr (hCo j hji hjp)
 refine Abs.of htr (hO.nodup_iff.2 h.od) ?_ ?_ ?_ ?_ ?_ ?_ ?_ (hwid.1.trans (c.id0.trans h.id0)) (hwid.2.trans (c.g0.trans h.g0)) ?_ ?_
 ·rw [hfree, c.free]
  exact ((hP.append_right _).nodup_iff).2 h.nd
 ·rw [hfree, c.free, hlen, c.len]; exact h.frb
 ·rw [hfree, c.free, hlen, c.len, hS]; exact h.len
 ·rw [hlen, c.len]; exact h.cap
 ·intro j hj
  rw [hat, c.at_, hCid]
  exact h.at_ j (hP.mem_iff.1 hj)
 ·intro x hx
  rw [hat, c.at_]
  exact h.atn x (fun e => hx (hO.mem_iff.2 e))
 ·rw [hcnt, c.cnt, hS]; exact h.cnt
 ·exact fun x hx => h.i64 x (hO.mem_iff.1 hx)
 ·intro j cc hj hn
  have hn2 : j ∉ post A 0 top := fun e => hn (hP.mem_iff.2 e)
  have h1 : j ≠ i := fun e => hn2 (by rw [e]; exact c.perm.mem_iff.1 (List.mem_append.2 (.inr hii)))
  have h2 : j ≠ p := fun e => hn2 (by rw [e]; exact c.perm.mem_iff.1 (List.mem_append.2 (.inl hpm)))
  rw [hCo j h1 h2, c.out j (fun e => hn2 (e ▸ c.y0))] at hj
  exact h.cel hj
end
end Go.Tr
