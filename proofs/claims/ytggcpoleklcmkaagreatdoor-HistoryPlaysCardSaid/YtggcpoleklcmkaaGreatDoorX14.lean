/-
 Histories, the plain law: shapes are added one by one.
-/
import Derived.Test.YtggcpoleklcmkaaGreatDoorX13
import Derived.Test.YtggcpoleklcmkaaGreatDoorX10
import Derived.Test.YtggcpoleklcmkaaGreatDoorX2
import Derived.Test.YtggcpoleklcmkaaGreatDoorX3
set_option linter.unusedVariables false
set_option linter.unusedSimpArgs false
set_option maxRecDepth 100000
set_option maxHeartbeats 8000000
namespace Go.Hi
open Go.Sl Go.Ls Go.Tr Go.Dc
def shapeE (n : Int) : Ent := ⟨n, false, 0, plainAtr⟩
def shapeC (n : Int) : Cm := { Cm.z with kind := 1, ents := [shapeE n] }
structure Sh (d : Dr) (k : Nat) : Prop where
 top : ∃ ks, d.top = .mk 0 true ks ∧ Nd.sizes ks = k ∧ ∀ x ∈ Nd.orders ks, 1 ≤ x ∧ x ≤ (k : Int)
 segs : d.segs = 0
theorem Sh.new : Sh Dr.new 0 := ⟨⟨[], rfl, rfl, fun x h => nomatch h⟩, rfl⟩
theorem Sh.len {d : Dr} {k : Nat} (h : Sh d k) : d.entries.length = k := by
 obtain ⟨ks, h1, h2, _⟩ := h.top
 rw [Dr.entries, List.length_tail, ents_len, h1, Nd.size]
 omega
theorem shape_tk (n : Int) : Tk [shapeE n] = some (.mk n false [], []) := by
 rw [Tk_cons, if_neg (by show ¬ ((0 : Int) < 0 ∨ _ < (0 : Int)); simp)]
 rw [show (shapeE n).kids.toNat = 0 from rfl, Tks_zero]
 rfl
theorem Sh.step {d : Dr} {k : Nat} (h : Sh d k) (hk : k ≤ 1000) : (d.apply (shapeC ((k : Int) + 1))).2.2 = 0 ∧ Sh (d.apply (shapeC ((k : Int) + 1))).1 (k + 1) ∧ Fits (shapeC ((k : Int) + 1)) d := by
 obtain ⟨ks, h1, h2, h3⟩ := h.top
 have hs := h.segs
 have htk := shape_tk ((k : Int) + 1)
 have hW : Whole [shapeE ((k : Int) + 1)] := (Whole_iff _).2 ⟨_, htk⟩
 have hwr : firstWrong [shapeE ((k : Int) + 1)] = 0 := by
  rw [firstWrong, firstWrong, show (shapeE ((k : Int) + 1)).atr.check (shapeE ((k : Int) + 1)).grp = plainAtr.check false from rfl, if_neg (by decide)]
 have hsg : segsOf [shapeE ((k : Int) + 1)] = 0 := rfl
 have hadd : Nd.add d.top 0 0 (.mk ((k : Int) + 1) false []) = (.mk 0 true (.mk ((k : Int) + 1) false [] :: ks), 0) := by
  rw [h1]
  have hf : Nd.find 0 (.mk 0 true ks) = some (.mk 0 true ks) := Nd.find_top (.mk 0 true ks)
  have hfit : Nd.fits (.mk 0 true ks) (.mk ((k : Int) + 1) false []) (Nd.depth 0 (.mk 0 true ks) + 1) = 0 := by
   refine Nd.fits_zero ?_ (fun x hx => ?_) ?_ ?_ ?_
   ·show 1 + Nd.sizes ks + (1 + 0) ≤ 65537
    omega
   ·have hx : x ∈ [(k : Int) + 1] := hx
    rw [List.mem_singleton.1 hx]
    refine ⟨by omega, by omega, fun h4 => ?_⟩
    rw [Nd.order] at h4
    rcases List.mem_cons.1 h4 with h4 | h4
    ·omega
    ·have := (h3 _ h4).2; omega
   ·show ([(k : Int) + 1] : List Int).Nodup
    simp
   ·rw [Nd.Gp, Nd.All]
    exact ⟨fun e => absurd rfl e, trivial⟩
   ·rw [show Nd.depth 0 (.mk 0 true ks) = 0 by rw [Nd.depth, if_pos rfl]]
    rw [show (Nd.mk ((k : Int) + 1) false []).height = 1 from rfl]
    decide
  rw [Nd.add, hf]
  simp only
  rw [if_neg (by show ¬ (true = false); decide), if_neg (by show ¬ ((0 : Int) < 0 ∨ (ks.length : Int) < 0); omega), if_neg (fun e => e hfit)]
  congr 1
 have hents : (shapeC ((k : Int) + 1)).ents = [shapeE ((k : Int) + 1)] := rfl
 have hap : d.apply (shapeC ((k : Int) + 1)) = d.add (shapeC ((k : Int) + 1)) := by rw [Dr.apply]; exact if_pos rfl
 have hpa : (shapeC ((k : Int) + 1)).parent = 0 := rfl
 have hix : (shapeC ((k : Int) + 1)).index = 0 := rfl
 rw [hap, Dr.add, hents, hpa, hix, nodeOf_eq htk, if_neg (fun e => e hW), if_neg (fun e => e hwr), if_neg (by rw [hs, hsg]; decide), hadd, if_neg (fun e => e rfl)]
 refine ⟨rfl, ⟨⟨_, rfl, ?_, ?_⟩, ?_⟩, ?_, ?_⟩
 ·show Nd.size (.mk ((k : Int) + 1) false []) + Nd.sizes ks = k + 1
  show 1 + 0 + Nd.sizes ks = k + 1
  omega
 ·intro x hx
  have hx : x ∈ ((k : Int) + 1) :: Nd.orders ks := hx
  rcases List.mem_cons.1 hx with rfl | hx
  ·omega
  ·have := h3 x hx; omega
 ·show d.segs + 0 = 0
  omega
 ·show 1 ≤ 100000
  decide
 ·rw [hs, hents, hsg]; decide
end Go.Hi

namespace Go.Hi
open Go.Sl Go.Ls Go.Tr Go.Dc
theorem Sh.run {d d' : Dr} {k : Nat} {bs : List Cm} (h : Sh d k) (hk : k ≤ 1000) (hr : Run d [shapeC ((k : Int) + 1)] d' bs) : Sh d' (k + 1) := by
 cases hr with
 | cons _ _ hr =>
  cases hr with
  | nil _ => exact (h.step hk).2.1
theorem Sh.err {d : Dr} {k : Nat} (h : Sh d k) (hk : k ≤ 1000) : errS d [shapeC ((k : Int) + 1)] = 0 := by
 rw [errS, errS, if_neg (fun e => e (h.step hk).1)]
theorem Sh.fits {d : Dr} {k : Nat} (h : Sh d k) (hk : k ≤ 1000) : FitsS d [shapeC ((k : Int) + 1)] := ⟨(h.step hk).2.2, fun _ => trivial⟩
end Go.Hi
namespace Go.Proofs.YtggcpoleklcmkaaGreatDoor
open Go.Sl Go.Ls Go.Tr Go.Dc Go.Hi
instance : PtK Tryz.prog 93 := ⟨by kernel_rfl⟩
attribute [local irreducible] WC WL WX WK WA WAK Val Ctr RunRes ResIs Rd At sl box pt Exit.then Exit.inBlock bodyPost Code.wp wpList
theorem HAbs.mono {I I' : Mem} {H : Hm} {d : Dr} {us rs : List (List Cm)} {ws ns : List Dr} (h : HAbs I H d us rs ws ns) (hI : I.le I') : HAbs I' H d us rs ws ns := ⟨h.dab.mono hI, h.good, h.u.mono hI, h.r.mono hI, h.cu, h.cr, h.ul, h.rl, h.su, h.sr, h.b1, h.b2⟩
theorem shape_ctr (n : Int) (I : Mem) (h64 : I64 n) : Ctr Tryz.prog 42 [vi n] I [] (fun v I' L' => L' = [] ∧ ∃ g, v = .agg ((shapeC n).cs (.slice (some ⟨g, 0, none⟩) 1 1) (.slice none 0 0) (.slice none 0 0) (.slice none 0 0) (.slice none 0 0)).toArray ∧ (shapeC n).at_ I' (.slice (some ⟨g, 0, none⟩) 1 1) (.slice none 0 0) (.slice none 0 0) (.slice none 0 0) (.slice none 0 0)) := by
 refine Ctr.intro Tryz.func42 rfl rfl rfl fun E F => ?_
 refine jS (WL.alloc rfl (fun _ => ?_))
 refine jW ?_
 refine jN (ja rfl ?_)
 rename_i g2
 refine WL.callS rfl rfl (one_ctr _) rfl ?_
 rintro _ rfl
 skip
 refine WL.callS rfl rfl (none_ctr _) rfl ?_
 rintro _ rfl
 skip
 refine jm (Val.build (cs := (plainAtr.cs (.slice none 0 0) (.slice none 0 0) (.slice none 0 0) (.slice none 0 0))) rfl) ?_
 refine jm (Val.build (cs := (Ent.cs (shapeE n) (.slice none 0 0) (.slice none 0 0) (.slice none 0 0) (.slice none 0 0))) rfl) ?_
 refine WL.buildSlice (by with_unfolding_all exact rfl) rfl (by with_unfolding_all exact rfl) rfl (fun _ => ?_)
 refine jW ?_
 rename_i g8
 refine WL.boxSl (e := 69) (sz := 37) (n := 1) 2 rfl rfl (by decide) ?_
 refine WL.freezeL (R := Ent.rep) (l := [shapeE n]) 2 rfl ⟨[_], rfl, ⟨_, _, _, _, rfl, ⟨h64, i64z, plain_at _⟩⟩, trivial⟩ fun I2 hI2 hv => ?_
 refine jm (Val.build (cs := (Cm.cs (shapeC n) (.slice (some ⟨g8, 0, none⟩) 1 1) (.slice none 0 0) (.slice none 0 0) (.slice none 0 0) (.slice none 0 0))) rfl) ?_
 refine WL.stA 1 rfl rfl rfl rfl ?_
 refine jM (jR ?_)
 exact jP [] (jr1 rfl (jcL 1 rfl rfl rfl)) ⟨rfl, g8, rfl, ⟨⟨by show (_ : Int) ≤ 1; decide, by show (1 : Int) ≤ _; decide⟩, i64z, i64z, i64z, i64z, i64z, i64z, hv, Atr.z_at _, Sg.z_ok, Pt.z_ok⟩⟩
theorem hAwake (I : Mem) (hN : NeedAt I) : Ctr Tryz.prog 39 [] I [] (KeepR [] fun v _ => v = .bool true) := by
 refine Ctr.intro Tryz.func39 rfl rfl rfl fun E F => ?_
 refine jS (jg rfl (jN (WL.callP [] rfl rfl (hNew 5 _ ⟨by omega, by omega⟩) rfl ?_)))
 rintro _ I1 _ _ ⟨rfl, (⟨h, _⟩ | ⟨_, _, H0, rfl, hb0, rfl, hH0⟩)⟩
 case inl => omega
 have hb5 : H0.bnd = 5 := by omega
 change WL _ _ _ _ _ (_ ++ [_, _, _, _, _, _, _, _, _, _]) _
 refine jW ?_
 refine ji rfl (jN (jd rfl (jm (Val.neqNilP rfl) ?_)))
 refine jb rfl (jG (jd rfl (jG (WL.callP [] rfl rfl (shape_ctr 1 _ ⟨by omega, by omega⟩) rfl ?_))))
 rintro _ I2 _ hI2 ⟨rfl, g1, rfl, hc1⟩
 refine jW ?_
 refine jG (WL.buildSlice (by with_unfolding_all exact rfl) rfl (by with_unfolding_all exact rfl) rfl (fun _ => ?_))
 refine jW ?_
 refine jG (WL.boxSl (e := 59) (sz := 51) (n := 1) 11 rfl rfl (by decide) ?_)
 refine WL.freezeL (R := Cm.rep) (l := [shapeC 1]) 11 rfl ⟨[_], rfl, ⟨_, _, _, _, _, rfl, hc1⟩, trivial⟩ fun I3 hI3 hv1 => ?_
 have hf1 : FitsS Dr.new [shapeC 1] := Sh.new.fits (by omega)
 have he1 : errD Dr.new [shapeC 1] = 0 := Sh.new.err (by omega)
 refine WL.callP [1, 1, 1, 1, 1, 1, 1, 1, 1, 1] rfl rfl (hDo H0 _ [shapeC 1] _ _ _ _ _ _ ((hN.mono hI2).mono hI3) ((hH0.mono hI2).mono hI3) hv1 (fun _ => hf1)) rfl ?_
 rintro _ I4 _ hI4 ⟨H1, hb1, hbn1, rfl, rfl, hQ1⟩
 obtain ⟨d1, bs1, hr1, hH1⟩ := (hQ1.resolve_left fun h => h.1 he1).2
 rw [he1, ← hb1]
 change WL _ _ _ _ _ (_ ++ [_, _, _, _, _, _, _, _, _, _]) _
 refine jW ?_
 have hS1 : Sh d1 1 := Sh.new.run (by omega) hr1
 refine jG (jw rfl rfl (jk rfl (jb rfl (jG (jd rfl (jG (WL.callP [] rfl rfl (shape_ctr 2 _ ⟨by omega, by omega⟩) rfl ?_)))))))
 rintro _ I5 _ hI5 ⟨rfl, g2, rfl, hc2⟩
 refine jW ?_
 refine jG (WL.buildSlice (by with_unfolding_all exact rfl) rfl (by with_unfolding_all exact rfl) rfl (fun _ => ?_))
 refine jW ?_
 refine jG (WL.boxSl (e := 59) (sz := 51) (n := 1) 11 rfl rfl (by decide) ?_)
 refine WL.freezeL (R := Cm.rep) (l := [shapeC 2]) 11 rfl ⟨[_], rfl, ⟨_, _, _, _, _, rfl, hc2⟩, trivial⟩ fun I6 hI6 hv2 => ?_
 have hf2 : FitsS d1 [shapeC 2] := hS1.fits (by omega)
 have he2 : errD d1 [shapeC 2] = 0 := hS1.err (by omega)
 refine WL.callP [1, 1, 1, 1, 1, 1, 1, 1, 1, 1] rfl rfl (hDo H1 _ [shapeC 2] _ _ _ _ _ _ (((hN.mono (hI2.trans (hI3.trans hI4))).mono hI5).mono hI6) ((hH1.mono hI5).mono hI6) hv2 (fun _ => hf2)) rfl ?_
 rintro _ I7 _ hI7 ⟨H2, hb2, hbn2, rfl, rfl, hQ2⟩
 obtain ⟨d2, bs2, hr2, hH2⟩ := (hQ2.resolve_left fun h => h.1 he2).2
 rw [he2, ← hb2]
 change WL _ _ _ _ _ (_ ++ [_, _, _, _, _, _, _, _, _, _]) _
 refine jW ?_
 have hS2 : Sh d2 2 := hS1.run (by omega) hr2
 have hN7 := hN.mono (hI2.trans (hI3.trans (hI4.trans (hI5.trans (hI6.trans hI7)))))
 have k1 : keep H0.bnd ([] ++ [bs1]) = [bs1] := keep_all (by rw [hb5]; show 1 ≤ 5; decide)
 have k2 : keep H0.bnd ([] ++ [Dr.new]) = [Dr.new] := keep_all (by rw [hb5]; show 1 ≤ 5; decide)
 have k3 : keep H1.bnd ([bs1] ++ [bs2]) = [bs1] ++ [bs2] := keep_all (by rw [hbn1, hb5]; show 2 ≤ 5; decide)
 have k4 : keep H1.bnd ([Dr.new] ++ [d1]) = [Dr.new] ++ [d1] := keep_all (by rw [hbn1, hb5]; show 2 ≤ 5; decide)
 rw [k1, k2, k3, k4] at hH2
 refine jG (jw rfl rfl (jk rfl (jb rfl (jG (jd rfl (jG (WL.callP [1, 1, 1, 1, 1, 1, 1, 1, 1, 1] rfl rfl (hUndo H2 _ _ _ _ _ _ hN7 hH2) rfl ?_)))))))
 rintro _ I8 _ hI8 (⟨h, _⟩ | ⟨H3, u1, s, w, w1, bs, e1, e2, rfl, hb3, hbn3, rfl, hH3⟩)
 case inl => exact absurd h (by simp)
 obtain ⟨rfl, e1⟩ := List.append_inj' e1 rfl
 obtain ⟨rfl, e2⟩ := List.append_inj' e2 rfl
 cases e1
 cases e2
 rw [if_neg (by decide)] at hH3
 have k5 : keep H2.bnd ([] ++ [bs]) = [] ++ [bs] := keep_all (by rw [hbn2, hbn1, hb5]; show 1 ≤ 5; decide)
 have k6 : keep H2.bnd ([] ++ [d2]) = [] ++ [d2] := keep_all (by rw [hbn2, hbn1, hb5]; show 1 ≤ 5; decide)
 rw [k5, k6] at hH3
 rw [← hb3]
 change WL _ _ _ _ _ (_ ++ [_, _, _, _, _, _, _, _, _, _]) _
 refine jW ?_
 have hN8 := hN7.mono hI8
 refine jG (jw rfl rfl (jk rfl (jb rfl (jG (jd rfl (jG (WL.callP [1, 1, 1, 1, 1, 1, 1, 1, 1, 1] rfl rfl (hDoc H3 _ _ _ _ _ _ hH3) rfl ?_)))))))
 rintro _ I9 _ _ ⟨rfl, Da, rfl, rfl, hDa⟩
 change WL _ _ _ _ _ (_ ++ [_, _, _, _, _, _, _, _, _, _, _, _, _, _, _, _, _]) _
 refine jW ?_
 refine jG (WL.callR [11, 11, 11, 11, 11, 11, 11] rfl rfl rfl (dEntries Da d1 _ hDa) rfl ?_)
 rintro v1 I10 hI10 hv1
 obtain ⟨a1, c1, rfl⟩ := hv1.sl
 rw [hS1.len]
 refine jG (jm (jo rfl) (jG (jw rfl rfl (jk rfl (jb rfl (jG (jd rfl (jG (WL.callP [1, 1, 1, 1, 1, 1, 1, 1, 1, 1] rfl rfl (hRedo H3 _ _ _ _ _ _ (hN8.mono hI10) (hH3.mono hI10)) rfl ?_)))))))))
 rintro _ I11 _ hI11 (⟨h, _⟩ | ⟨H4, u2, s2, w2, w3, bs4, e1, e2, rfl, hb4, hbn4, rfl, hH4⟩)
 case inl => exact absurd h (by simp)
 obtain ⟨rfl, e1⟩ := List.append_inj' e1 rfl
 obtain ⟨rfl, e2⟩ := List.append_inj' e2 rfl
 cases e1
 cases e2
 rw [if_pos rfl] at hH4
 have k7 : keep H3.bnd ([bs1] ++ [bs4]) = [bs1] ++ [bs4] := keep_all (by rw [hbn3, hbn2, hbn1, hb5]; show 2 ≤ 5; decide)
 rw [k7] at hH4
 rw [← hb4]
 change WL _ _ _ _ _ (_ ++ [_, _, _, _, _, _, _, _, _, _]) _
 refine jW ?_
 refine jG (jw rfl rfl (jk rfl (jb rfl (jG (jd rfl (jG (WL.callP [8, 8, 8, 8, 8, 8, 8, 8, 8, 8] rfl rfl (hDoc H4 _ _ _ _ _ _ hH4) rfl ?_)))))))
 rintro _ I12 _ _ ⟨rfl, Db, rfl, rfl, hDb⟩
 change WL _ _ _ _ _ (_ ++ [_, _, _, _, _, _, _, _, _, _, _, _, _, _, _, _, _]) _
 refine jW ?_
 refine jG (WL.callR [18, 18, 18, 18, 18, 18, 18] rfl rfl rfl (dEntries Db d2 _ hDb) rfl ?_)
 rintro v2 I13 hI13 hv2
 obtain ⟨a2, c2, rfl⟩ := hv2.sl
 rw [hS2.len]
 refine jG (jm (jo rfl) (jG (jw rfl rfl (jk rfl (jb rfl (jG (jd rfl (jG (WL.callK [8, 8, 8, 8, 8, 8, 8, 8, 8, 8] rfl rfl rfl (hUndos H4 _ _ _ _ _ _ (hH4.mono hI13)) rfl ?_)))))))))
 rintro _ rfl
 refine jG (jm (Val.eql rfl rfl rfl) ?_)
 refine jk rfl (jg rfl (jM (jR ?_)))
 have hJ := hI2.trans (hI3.trans (hI4.trans (hI5.trans (hI6.trans (hI7.trans (hI8.trans (hI10.trans (hI11.trans hI13))))))))
 exact jP [] (jr1 rfl (jtB rfl)) ⟨rfl, rfl⟩
end Go.Proofs.YtggcpoleklcmkaaGreatDoor

namespace Go.Hi
open Go.Sl Go.Ls Go.Tr Go.Dc
def small20 (c : Cm) : Prop := c.small ∧ c.ents.length ≤ 20
theorem apply_segs20 {d : Dr} {c : Cm} (h : small20 c) : (d.apply c).1.segs ≤ d.segs + 600 := by
 obtain ⟨h, h20⟩ := h
 have hs : segsOf c.ents ≤ 600 := by
  have h1 := segsOf_le (m := 30) (l := c.ents) fun x hx => (h.2.2 x hx).1
  have : (c.ents.length : Int) * (30 : Nat) ≤ 20 * 30 := by
   have : (c.ents.length : Int) ≤ 20 := by omega
   omega
  omega
 rw [Dr.apply]
 by_cases k1 : c.kind = 1
 ·rw [if_pos k1, Dr.add]
  repeat' split
  all_goals first | (show d.segs ≤ _; omega) | (show d.segs + segsOf _ ≤ _; omega)
 rw [if_neg k1]
 by_cases k2 : c.kind = 2
 ·rw [if_pos k2, Dr.remove]
  simp only
  split
  ·show d.segs ≤ _; omega
  ·have := segsOf_nonneg (ents d.get (Nd.remove d.top c.id).2.1)
   show d.segs - _ ≤ _; omega
 rw [if_neg k2]
 by_cases k3 : c.kind = 3
 ·rw [if_pos k3, Dr.move]
  simp only
  split <;> (show d.segs ≤ _; omega)
 rw [if_neg k3]
 by_cases k4 : c.kind = 4
 ·rw [if_pos k4, Dr.wrap]
  simp only
  repeat' split
  all_goals (show d.segs ≤ _; omega)
 rw [if_neg k4]
 by_cases k5 : c.kind = 5
 ·rw [if_pos k5, Dr.unwrap]
  simp only
  split <;> (show d.segs ≤ _; omega)
 rw [if_neg k5]
 by_cases k6 : 6 ≤ c.kind ∧ c.kind ≤ 12
 ·rw [if_pos k6, Dr.set]
  split
  ·show d.segs ≤ _; omega
  split
  ·show d.segs ≤ _; omega
  rename_i a ha
  have := change_le (a := a) h
  repeat' split
  all_goals first | (show d.segs ≤ _; omega) | (show d.segs + _ - _ ≤ _; omega)
 ·rw [if_neg k6]; show d.segs ≤ _; omega
theorem segs20 {c : Cm} (h : small20 c) : segsOf c.ents ≤ 600 ∧ c.ents.length ≤ 100000 := by
 obtain ⟨h, h20⟩ := h
 have h1 := segsOf_le (m := 30) (l := c.ents) fun x hx => (h.2.2 x hx).1
 have : (c.ents.length : Int) * (30 : Nat) ≤ 20 * 30 := by
  have : (c.ents.length : Int) ≤ 20 := by omega
  omega
 exact ⟨by omega, by omega⟩
theorem fits20 : ∀ {l : List Cm} {d : Dr}, (∀ c ∈ l, small20 c) → d.segs + 600 * (l.length : Int) ≤ 1048576 → FitsS d l
 | [], _, _, _ => trivial
 | c :: l, d, h, hd => by
  have hc := h c (.head _)
  obtain ⟨e1, e2⟩ := segs20 hc
  have e3 := apply_segs20 (d := d) hc
  rw [List.length_cons] at hd
  exact ⟨⟨e2, by omega⟩, fun _ => fits20 (fun x hx => h x (.tail _ hx)) (by omega)⟩
theorem Run.segs20 {d d' : Dr} {l bs : List Cm} (h : Run d l d' bs) : (∀ c ∈ l, small20 c) → d'.segs ≤ d.segs + 600 * (l.length : Int) := by
 induction h with
 | nil _ => intro _; simp
 | @cons d d' c s bs h he hr ih =>
  intro hs
  have e3 := apply_segs20 (d := d) (hs c (.head _))
  have := ih fun x hx => hs x (.tail _ hx)
  rw [List.length_cons]
  omega
structure Segs (d : Dr) (ws ns : List Dr) (n : Int) : Prop where
 d : d.segs ≤ n
 w : ∀ x ∈ ws, x.segs ≤ n
 n : ∀ x ∈ ns, x.segs ≤ n
theorem Segs.more {d : Dr} {ws ns : List Dr} {n m : Int} (h : Segs d ws ns n) (hm : n ≤ m) : Segs d ws ns m := ⟨by have := h.d; omega, fun x hx => by have := h.w x hx; omega, fun x hx => by have := h.n x hx; omega⟩
end Go.Hi

namespace Go.Hi
open Go.Sl Go.Ls Go.Tr Go.Dc
theorem keep_sub {α : Type} {n : Nat} {l : List α} {x : α} (h : x ∈ keep n l) : x ∈ l := List.mem_of_mem_drop h
structure Past (bnd k : Nat) (d : Dr) (us rs : List (List Cm)) (ws ns : List Dr) : Prop where
 len : us.length + rs.length ≤ k
 new : k ≤ bnd → (ws ++ [d]).head? = some Dr.new
 segs : Segs d ws ns (38400 * (k : Int))
theorem Past.start (bnd : Nat) : Past bnd 0 Dr.new [] [] [] [] := ⟨Nat.le_refl _, fun _ => rfl, ⟨by show (0 : Int) ≤ _; omega, (fun x h => nomatch h), (fun x h => nomatch h)⟩⟩
section
variable {bnd k : Nat} {d d' w : Dr} {us rs u1 r1 : List (List Cm)} {ws ns w1 n1 : List Dr} {s l bs : List Cm}
theorem Past.more (h : Past bnd k d us rs ws ns) : Past bnd (k + 1) d us rs ws ns := ⟨by have := h.len; omega, fun hk => h.new (by omega), h.segs.more (by omega)⟩
theorem Past.run (h : Past bnd k d us rs ws ns) (hl : us.length = ws.length) (hr : Run d l d' bs) (hs : ∀ c ∈ l, small20 c) (h64 : l.length ≤ 64) : Past bnd (k + 1) d' (keep bnd (us ++ [bs])) [] (keep bnd (ws ++ [d])) [] := by
 have hlen := h.len
 have hsg := h.segs.more (m := 38400 * ((k + 1 : Nat) : Int)) (by omega)
 refine ⟨?_, fun hk => ?_, ⟨?_, fun x hx => ?_, fun x hx => nomatch hx⟩⟩
 ·rw [keep_len, List.length_append]; simp only [List.length_singleton, List.length_nil]; omega
 ·rw [keep_all (by rw [List.length_append]; simp only [List.length_singleton]; omega), List.head?_append, h.new (by omega)]; rfl
 ·have := hr.segs20 hs
  have := h.segs.d
  omega
 ·rcases List.mem_append.1 (keep_sub hx) with hx | hx
  ·exact hsg.w x hx
  ·rw [List.mem_singleton.1 hx]; exact hsg.d
theorem Past.undo (h : Past bnd k d (u1 ++ [s]) rs (w1 ++ [w]) ns) : Past bnd (k + 1) w u1 (keep bnd (rs ++ [bs])) w1 (keep bnd (ns ++ [d])) := by
 have hlen := h.len
 have hsg := h.segs.more (m := 38400 * ((k + 1 : Nat) : Int)) (by omega)
 rw [List.length_append] at hlen
 simp only [List.length_singleton] at hlen
 refine ⟨?_, fun hk => ?_, ⟨hsg.w w (by simp), fun x hx => hsg.w x (by simp [hx]), fun x hx => ?_⟩⟩
 ·rw [keep_len, List.length_append]; simp only [List.length_singleton]; omega
 ·have := h.new (by omega)
  rw [List.head?_append] at this
  cases w1 <;> exact this
 ·rcases List.mem_append.1 (keep_sub hx) with hx | hx
  ·exact hsg.n x hx
  ·rw [List.mem_singleton.1 hx]; exact hsg.d
theorem Past.redo (h : Past bnd k d us (r1 ++ [s]) ws (n1 ++ [w])) (hl : us.length = ws.length) : Past bnd (k + 1) w (keep bnd (us ++ [bs])) r1 (keep bnd (ws ++ [d])) n1 := by
 have hlen := h.len
 have hsg := h.segs.more (m := 38400 * ((k + 1 : Nat) : Int)) (by omega)
 rw [List.length_append] at hlen
 simp only [List.length_singleton] at hlen
 refine ⟨?_, fun hk => ?_, ⟨hsg.n w (by simp), fun x hx => ?_, fun x hx => hsg.n x (by simp [hx])⟩⟩
 ·rw [keep_len, List.length_append]; simp only [List.length_singleton]; omega
 ·rw [keep_all (by rw [List.length_append]; simp only [List.length_singleton]; omega), List.head?_append, h.new (by omega)]; rfl
 ·rcases List.mem_append.1 (keep_sub hx) with hx | hx
  ·exact hsg.w x hx
  ·rw [List.mem_singleton.1 hx]; exact hsg.d
end
end Go.Hi
