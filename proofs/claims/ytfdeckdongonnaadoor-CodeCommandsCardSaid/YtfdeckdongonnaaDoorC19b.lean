/-
  Code, in plain Lean: what is plain; what is written of a thing is written of a plain one.
-/
import Derived.Test.YtfdeckdongonnaaDoorC19
namespace Go.Cd
open Go.Sl
set_option linter.unusedVariables false
set_option maxRecDepth 100000
/-! what fits -/
def Pnt.fine (p : Pnt) : Prop := I64 p.kind ∧ p.frm.ok ∧ p.to.ok ∧ ∀ s ∈ p.stops, I64 s.pos
def Sty.fine (s : Sty) : Prop := s.fill.fine ∧ s.pen.fine ∧ I64 s.rule ∧ I64 s.half ∧ I64 s.cap ∧ (∀ n ∈ s.dash, I64 n) ∧ I64 s.phase ∧ I64 s.opac ∧ I64 s.mode
def Atr.fine (a : Atr) : Prop := a.mtx.ok ∧ a.sty.fine ∧ ∀ s ∈ a.path, s.ok
def Ent.fine (x : Ent) : Prop := I64 x.id ∧ I64 x.kids ∧ x.atr.fine
structure Cm.fine (c : Cm) : Prop where
  kind : I64 c.kind
  id : I64 c.id
  parent : I64 c.parent
  index : I64 c.index
  count : I64 c.count
  i : I64 c.i
  k : I64 c.k
  ents : ∀ x ∈ c.ents, x.fine
  atr : c.atr.fine
  seg : c.seg.ok
  point : c.point.ok
theorem All2.left {α β : Type} {R : α → β → Prop} : ∀ {l : List α} {r : List β}, All2 R l r → ∀ x ∈ l, ∃ y, R x y
  | a :: l, b :: r, ⟨h1, h2⟩, x, hx => by
    rcases List.mem_cons.1 hx with rfl | hx
    · exact ⟨b, h1⟩
    · exact All2.left h2 x hx
  | [], _, _, _, hx => by cases hx
  | _ :: _, [], h, _, _ => h.elim
theorem LsAt.each {α : Type} {R : Rep α} {I : Mem} {l : List α} {v : Value} (h : LsAt R I l v) : ∀ x ∈ l, ∃ cs, R I x cs := by
  obtain ⟨css, _, h2⟩ := h; exact h2.left
theorem Pnt.at_.fine {I : Mem} {p : Pnt} {t : Value} (h : p.at_ I t) : p.fine := ⟨h.kind, h.frm, h.to, fun s hs => (h.stops.each s hs).elim fun _ h => h.2⟩
theorem Sty.at_.fine {I : Mem} {s : Sty} {t u d : Value} (h : s.at_ I t u d) : s.fine :=
  ⟨h.fill.fine, h.pen.fine, h.rule, h.half, h.cap, fun s hs => (h.dash.each s hs).elim fun _ h => h.2, h.phase, h.opac, h.mode⟩
theorem Atr.at_.fine {I : Mem} {a : Atr} {t u d q : Value} (h : a.at_ I t u d q) : a.fine := ⟨h.mtx, h.sty.fine, fun s hs => (h.path.each s hs).elim fun _ h => h.2⟩
theorem Ent.at_.fine {I : Mem} {x : Ent} {t u d q : Value} (h : x.at_ I t u d q) : x.fine := ⟨h.id, h.kids, h.atr.fine⟩
theorem entsFine {I : Mem} {l : List Ent} {v : Value} (h : LsAt Ent.rep I l v) : ∀ x ∈ l, x.fine := fun x hx => by
  obtain ⟨cs, t, u, d, q, _, h⟩ := h.each x hx; exact h.fine
theorem Cm.at_.fine {I : Mem} {c : Cm} {e t u d q : Value} (h : c.at_ I e t u d q) : c.fine :=
  ⟨h.kind, h.id, h.parent, h.index, h.count, h.i, h.k, entsFine h.ents, h.atr.fine, h.seg, h.point⟩
/-! what the document calls plain -/
def Pnt.pl (p : Pnt) : Prop := (p.kind = 0 ∧ p.col = Col.z ∧ p.frm = Pt.z ∧ p.to = Pt.z ∧ p.stops = []) ∨ (p.kind = 1 ∧ p.frm = Pt.z ∧ p.to = Pt.z ∧ p.stops = []) ∨ ((p.kind = 2 ∨ p.kind = 3) ∧ p.col = Col.z ∧ p.stops.length ≤ 16)
def Sty.pl (s : Sty) : Prop := s.fill.pl ∧ s.pen.pl ∧ s.dash.length ≤ 8
def Sg.pl (s : Sg) : Prop := 1 ≤ s.kind ∧ s.kind ≤ 5 ∧ (need s.kind ≤ 0 → s.p0 = Pt.z) ∧ (need s.kind ≤ 1 → s.p1 = Pt.z) ∧ (need s.kind ≤ 2 → s.p2 = Pt.z)
def pathPl (l : List Sg) : Prop := l.length ≤ 4096 ∧ ∀ s ∈ l, s.pl
def Atr.pl (a : Atr) : Prop := a.sty.pl ∧ pathPl a.path
def entsPl (l : List Ent) : Prop := ∀ x ∈ l, x.atr.pl
def Cm.plK (c : Cm) : Prop := if c.kind = 1 then entsPl c.ents else if c.kind = 4 then c.atr.pl else if c.kind = 7 then c.atr.sty.pl else if c.kind = 8 then pathPl c.atr.path else if c.kind = 9 then c.seg.pl else True
def Cm.pl (c : Cm) : Prop := 1 ≤ c.kind ∧ c.kind ≤ 12 ∧ c.named = c ∧ c.plK
theorem Pnt.plain_iff {p : Pnt} (h : p.fine) : p.plain ↔ p.pl := by
  unfold Pnt.plain Pnt.pl
  have := h.2.1; have := h.2.2.1; have := h.2.2.2
  constructor
  · rintro (h | h | h)
    · exact .inl h
    · exact .inr (.inl h)
    · exact .inr (.inr ⟨h.1, h.2.1, h.2.2.1⟩)
  · rintro (h | h | h)
    · exact .inl h
    · exact .inr (.inl h)
    · exact .inr (.inr ⟨h.1, h.2.1, h.2.2, by assumption, by assumption, by assumption⟩)
theorem Sty.plain_iff {s : Sty} (h : s.fine) : s.plain ↔ s.pl := by
  unfold Sty.plain Sty.pl
  obtain ⟨h1, h2, h3, h4, h5, h6, h7, h8, h9⟩ := h
  rw [Pnt.plain_iff h1, Pnt.plain_iff h2]
  exact ⟨fun h => ⟨h.1, h.2.1, h.2.2.2.2.2.1.1⟩, fun h => ⟨h.1, h.2.1, h3, h4, h5, ⟨h.2.2, h6⟩, h7, h8, h9⟩⟩
theorem Sg.plain_iff {s : Sg} (h : s.ok) : s.plain ↔ s.pl := by
  unfold Sg.plain Sg.pl
  obtain ⟨_, h1, h2, h3⟩ := h
  exact ⟨fun h => ⟨h.1, h.2.1, h.2.2.2.2.2⟩, fun h => ⟨h.1, h.2.1, h1, h2, h3, h.2.2⟩⟩
theorem path_iff {l : List Sg} (h : ∀ s ∈ l, s.ok) : (l.length ≤ 4096 ∧ ∀ s ∈ l, s.plain) ↔ pathPl l :=
  ⟨fun k => ⟨k.1, fun s hs => (Sg.plain_iff (h s hs)).1 (k.2 s hs)⟩, fun k => ⟨k.1, fun s hs => (Sg.plain_iff (h s hs)).2 (k.2 s hs)⟩⟩
theorem Atr.plain_iff {a : Atr} (h : a.fine) : a.plain ↔ a.pl := by
  unfold Atr.plain Atr.pl
  rw [Sty.plain_iff h.2.1, path_iff h.2.2]
  exact ⟨fun k => k.2, fun k => ⟨h.1, k⟩⟩
theorem Ent.plain_iff {x : Ent} (h : x.fine) : x.plain ↔ x.atr.pl := by
  unfold Ent.plain
  rw [Atr.plain_iff h.2.2]
  exact ⟨fun k => k.2.2, fun k => ⟨h.1, h.2.1, k⟩⟩
theorem ents_iff {l : List Ent} (h : ∀ x ∈ l, x.fine) : (∀ x ∈ l, x.plain) ↔ entsPl l :=
  ⟨fun k x hx => (Ent.plain_iff (h x hx)).1 (k x hx), fun k x hx => (Ent.plain_iff (h x hx)).2 (k x hx)⟩
theorem Cm.plain_iff {c : Cm} (h : c.fine) (hl : c.ents.length ≤ 65536) : c.plain ↔ c.pl := by
  unfold Cm.plain Cm.pl
  have key : c.okK ↔ c.plK := by
    unfold Cm.okK Cm.plK
    have ha := Atr.plain_iff h.atr
    have hs := Sty.plain_iff h.atr.2.1
    have hp := path_iff h.atr.2.2
    have he := ents_iff h.ents
    have hg := Sg.plain_iff h.seg
    have h1 := h.id; have h2 := h.parent; have h3 := h.index; have h4 := h.count; have h5 := h.i; have h6 := h.k; have h7 := h.point; have h8 := h.atr.1
    by_cases k1 : c.kind = 1
    · simp only [k1, if_true]; rw [he]; exact ⟨fun k => k.2.2.2, fun k => ⟨h2, h3, hl, k⟩⟩
    by_cases k2 : c.kind = 2
    · simp [k2, h1]
    by_cases k3 : c.kind = 3
    · simp [k3, h1, h2, h3]
    by_cases k4 : c.kind = 4
    · simp [k4, h1, h2, h3, h4, ha]
    by_cases k5 : c.kind = 5
    · simp [k5, h1]
    by_cases k6 : c.kind = 6
    · simp [k6, h1, h8]
    by_cases k7 : c.kind = 7
    · simp [k7, h1, hs]
    by_cases k8 : c.kind = 8
    · simp only [k8]; simp only [show ¬ ((8 : Int) = 1) by decide, show ¬ ((8 : Int) = 2) by decide, show ¬ ((8 : Int) = 3) by decide, show ¬ ((8 : Int) = 4) by decide, show ¬ ((8 : Int) = 5) by decide, show ¬ ((8 : Int) = 6) by decide, show ¬ ((8 : Int) = 7) by decide, if_false, if_true]; rw [hp]; exact ⟨fun k => k.2, fun k => ⟨h1, k⟩⟩
    by_cases k9 : c.kind = 9
    · simp [k9, h1, h5, hg]
    by_cases k10 : c.kind = 10
    · simp [k10, h1, h5]
    by_cases k11 : c.kind = 11
    · simp [k11, h1, h5, h6, h7]
    by_cases k12 : c.kind = 12
    · simp [k12, h1, h5]
    simp [k1, k2, k3, k4, k5, k6, k7, k8, k9, k10, k11, k12]
  rw [key]
/-! the plain thing that has the same bytes -/
def Pnt.norm (p : Pnt) : Pnt := if p.kind = 0 then ⟨0, Col.z, Pt.z, Pt.z, []⟩ else if p.kind = 1 then ⟨1, p.col, Pt.z, Pt.z, []⟩ else ⟨p.kind, Col.z, p.frm, p.to, p.stops⟩
def Sty.norm (s : Sty) : Sty := ⟨s.fill.norm, s.pen.norm, s.rule, s.half, s.cap, s.dash, s.phase, s.opac, s.mode⟩
def Sg.norm (s : Sg) : Sg := ⟨s.kind, if need s.kind ≤ 0 then Pt.z else s.p0, if need s.kind ≤ 1 then Pt.z else s.p1, if need s.kind ≤ 2 then Pt.z else s.p2⟩
def Atr.norm (a : Atr) : Atr := ⟨a.mtx, a.sty.norm, a.path.map Sg.norm⟩
def Ent.norm (x : Ent) : Ent := ⟨x.id, x.grp, x.kids, x.atr.norm⟩
def Cm.norm (c : Cm) : Cm := let n := c.named; ⟨n.kind, n.id, n.parent, n.index, n.count, n.i, n.k, n.ents.map Ent.norm, n.atr.norm, n.seg.norm, n.point⟩
theorem Pnt.norm_w {p : Pnt} (h : p.wok = true) : p.norm.w = p.w := by
  simp only [Pnt.wok, decide_eq_true_eq] at h
  unfold Pnt.norm Pnt.w
  by_cases k0 : p.kind = 0
  · simp [k0]
  by_cases k1 : p.kind = 1
  · simp [k1]
  have k2 : p.kind = 2 ∨ p.kind = 3 := by omega
  simp [k0, k1, k2]
theorem Pnt.norm_plain {p : Pnt} (hf : p.fine) (h : p.wok = true) : p.norm.plain := by
  simp only [Pnt.wok, decide_eq_true_eq] at h
  unfold Pnt.norm Pnt.plain
  by_cases k0 : p.kind = 0
  · simp [k0]
  by_cases k1 : p.kind = 1
  · simp [k1]
  have k2 : (p.kind = 2 ∨ p.kind = 3) ∧ (p.stops.length : Int) ≤ 16 := by omega
  rw [if_neg k0, if_neg k1]
  exact .inr (.inr ⟨k2.1, rfl, by have := k2.2; show p.stops.length ≤ 16; omega, hf.2.1, hf.2.2.1, hf.2.2.2⟩)
theorem Sty.norm_w {s : Sty} (h : s.wok = true) : s.norm.w = s.w := by
  simp only [Sty.wok, Bool.and_eq_true] at h
  unfold Sty.w Sty.norm
  simp only [Pnt.norm_w h.1.1, Pnt.norm_w h.1.2]
theorem Sty.norm_plain {s : Sty} (hf : s.fine) (h : s.wok = true) : s.norm.plain := by
  simp only [Sty.wok, Bool.and_eq_true, decide_eq_true_eq] at h
  obtain ⟨h1, h2, h3, h4, h5, h6, h7, h8, h9⟩ := hf
  exact ⟨Pnt.norm_plain h1 h.1.1, Pnt.norm_plain h2 h.1.2, h3, h4, h5, ⟨by have := h.2; show s.dash.length ≤ 8; omega, h6⟩, h7, h8, h9⟩
theorem need_le (k : Int) : need k ≤ 3 := by unfold need; split <;> (try split) <;> (try split) <;> omega
theorem Sg.norm_w (s : Sg) : s.norm.w = s.w := by
  unfold Sg.w Sg.norm
  have h := need_le s.kind
  simp only
  rcases (by omega : need s.kind = 0 ∨ need s.kind = 1 ∨ need s.kind = 2 ∨ need s.kind = 3) with h | h | h | h <;> simp [h]
theorem Pt.ite_ok {c : Prop} [Decidable c] {p : Pt} (h : p.ok) : (if c then Pt.z else p).ok := by split; exact Pt.z_ok; exact h
theorem Sg.norm_plain {s : Sg} (hf : s.ok) (h : s.wok = true) : s.norm.plain := by
  simp only [Sg.wok, decide_eq_true_eq] at h
  obtain ⟨_, h1, h2, h3⟩ := hf
  refine ⟨h.1, h.2, Pt.ite_ok h1, Pt.ite_ok h2, Pt.ite_ok h3, fun h => ?_, fun h => ?_, fun h => ?_⟩
  all_goals exact if_pos h
theorem map_w {α : Type} {w : α → Bs} {f : α → α} {l : List α} (h : ∀ x ∈ l, w (f x) = w x) : lw w (l.map f) = lw w l := by
  unfold lw
  rw [List.length_map, List.map_map, List.map_congr_left (f := w ∘ f) (g := w) (fun x hx => h x hx)]
theorem Atr.norm_w {a : Atr} (h : a.wok = true) : a.norm.w = a.w := by
  simp only [Atr.wok, Bool.and_eq_true] at h
  unfold Atr.w Atr.norm
  simp only [Sty.norm_w h.1, map_w (w := Sg.w) (f := Sg.norm) (l := a.path) fun x _ => x.norm_w]
theorem path_norm {l : List Sg} (hf : ∀ s ∈ l, s.ok) (h : pathWok l = true) : (l.map Sg.norm).length ≤ 4096 ∧ ∀ s ∈ l.map Sg.norm, s.plain := by
  simp only [pathWok, Bool.and_eq_true, Bool.not_eq_true', decide_eq_false_iff_not, List.all_eq_true] at h
  refine ⟨by rw [List.length_map]; omega, fun s hs => ?_⟩
  obtain ⟨x, hx, rfl⟩ := List.mem_map.1 hs
  exact Sg.norm_plain (hf x hx) (h.2 x hx)
theorem Atr.norm_plain {a : Atr} (hf : a.fine) (h : a.wok = true) : a.norm.plain := by
  simp only [Atr.wok, Bool.and_eq_true] at h
  exact ⟨hf.1, Sty.norm_plain hf.2.1 h.1, path_norm hf.2.2 h.2⟩
theorem Ent.norm_w {x : Ent} (h : x.atr.wok = true) : x.norm.w = x.w := by
  unfold Ent.w Ent.norm
  simp only [Atr.norm_w h]
theorem Ent.norm_plain {x : Ent} (hf : x.fine) (h : x.atr.wok = true) : x.norm.plain := ⟨hf.1, hf.2.1, Atr.norm_plain hf.2.2 h⟩
theorem ents_norm_w {l : List Ent} (h : entsWok l = true) : lw Ent.w (l.map Ent.norm) = lw Ent.w l := by
  simp only [entsWok, Bool.and_eq_true, List.all_eq_true] at h
  exact map_w fun x hx => Ent.norm_w (h.2 x hx)
theorem ents_norm {l : List Ent} (hf : ∀ x ∈ l, x.fine) (h : entsWok l = true) : (l.map Ent.norm).length ≤ 65536 ∧ ∀ x ∈ l.map Ent.norm, x.plain := by
  simp only [entsWok, Bool.and_eq_true, Bool.not_eq_true', decide_eq_false_iff_not, List.all_eq_true] at h
  refine ⟨by rw [List.length_map]; omega, fun s hs => ?_⟩
  obtain ⟨x, hx, rfl⟩ := List.mem_map.1 hs
  exact Ent.norm_plain (hf x hx) (h.2 x hx)
theorem Pnt.norm_z : Pnt.z.norm = Pnt.z := rfl
theorem Sty.norm_z : Sty.z.norm = Sty.z := rfl
theorem Sg.norm_z : Sg.z.norm = Sg.z := rfl
theorem Atr.norm_z : Atr.z.norm = Atr.z := rfl
theorem Cm.norm_ok {c : Cm} (hf : c.fine) (h : c.wok = true) : c.norm.plain ∧ c.norm.w = c.w := by
  obtain ⟨kind, id, parent, index, count, i, k, ents, atr, seg, point⟩ := c
  obtain ⟨f0, f1, f2, f3, f4, f5, f6, f7, f8, f9, f10⟩ := hf
  simp only at f0 f1 f2 f3 f4 f5 f6 f7 f8 f9 f10
  by_cases k1 : kind = 1
  · subst k1
    have h : entsWok ents = true := h
    have hp := ents_norm f7 h
    have hw := ents_norm_w h
    refine ⟨⟨by show (1 : Int) ≤ 1; decide, by show (1 : Int) ≤ 12; decide, rfl, ?_⟩, ?_⟩
    · exact ⟨f2, f3, hp⟩
    · show eInt 1 ++ (eInt parent ++ eInt index ++ lw Ent.w (ents.map Ent.norm)) = eInt 1 ++ (eInt parent ++ eInt index ++ lw Ent.w ents)
      rw [hw]
  by_cases k2 : kind = 2
  · subst k2
    refine ⟨⟨by show (1 : Int) ≤ 2; decide, by show (2 : Int) ≤ 12; decide, rfl, ?_⟩, ?_⟩
    · exact f1
    · rfl
  by_cases k3 : kind = 3
  · subst k3
    refine ⟨⟨by show (1 : Int) ≤ 3; decide, by show (3 : Int) ≤ 12; decide, rfl, ?_⟩, ?_⟩
    · exact ⟨f1, f2, f3⟩
    · rfl
  by_cases k4 : kind = 4
  · subst k4
    have h : atr.wok = true := h
    have hp := Atr.norm_plain f8 h
    have hw := Atr.norm_w h
    refine ⟨⟨by show (1 : Int) ≤ 4; decide, by show (4 : Int) ≤ 12; decide, rfl, ?_⟩, ?_⟩
    · exact ⟨f1, f2, f3, f4, hp⟩
    · show eInt 4 ++ (eInt id ++ eInt parent ++ eInt index ++ eInt count ++ atr.norm.w) = eInt 4 ++ (eInt id ++ eInt parent ++ eInt index ++ eInt count ++ atr.w)
      rw [hw]
  by_cases k5 : kind = 5
  · subst k5
    refine ⟨⟨by show (1 : Int) ≤ 5; decide, by show (5 : Int) ≤ 12; decide, rfl, ?_⟩, ?_⟩
    · exact f1
    · rfl
  by_cases k6 : kind = 6
  · subst k6
    refine ⟨⟨by show (1 : Int) ≤ 6; decide, by show (6 : Int) ≤ 12; decide, rfl, ?_⟩, ?_⟩
    · exact ⟨f1, f8.1⟩
    · rfl
  by_cases k7 : kind = 7
  · subst k7
    have h : atr.sty.wok = true := h
    have hp := Sty.norm_plain f8.2.1 h
    have hw := Sty.norm_w h
    refine ⟨⟨by show (1 : Int) ≤ 7; decide, by show (7 : Int) ≤ 12; decide, rfl, ?_⟩, ?_⟩
    · exact ⟨f1, hp⟩
    · show eInt 7 ++ (eInt id ++ atr.sty.norm.w) = eInt 7 ++ (eInt id ++ atr.sty.w)
      rw [hw]
  by_cases k8 : kind = 8
  · subst k8
    have h : pathWok atr.path = true := h
    have hp := path_norm f8.2.2 h
    have hw := map_w (w := Sg.w) (f := Sg.norm) (l := atr.path) fun x _ => x.norm_w
    refine ⟨⟨by show (1 : Int) ≤ 8; decide, by show (8 : Int) ≤ 12; decide, rfl, ?_⟩, ?_⟩
    · exact ⟨f1, hp⟩
    · show eInt 8 ++ (eInt id ++ lw Sg.w (atr.path.map Sg.norm)) = eInt 8 ++ (eInt id ++ lw Sg.w atr.path)
      rw [hw]
  by_cases k9 : kind = 9
  · subst k9
    have h : seg.wok = true := h
    have hp := Sg.norm_plain f9 h
    have hw := seg.norm_w
    refine ⟨⟨by show (1 : Int) ≤ 9; decide, by show (9 : Int) ≤ 12; decide, rfl, ?_⟩, ?_⟩
    · exact ⟨f1, f5, hp⟩
    · show eInt 9 ++ (eInt id ++ eInt i ++ seg.norm.w) = eInt 9 ++ (eInt id ++ eInt i ++ seg.w)
      rw [hw]
  by_cases k10 : kind = 10
  · subst k10
    refine ⟨⟨by show (1 : Int) ≤ 10; decide, by show (10 : Int) ≤ 12; decide, rfl, ?_⟩, ?_⟩
    · exact ⟨f1, f5⟩
    · rfl
  by_cases k11 : kind = 11
  · subst k11
    refine ⟨⟨by show (1 : Int) ≤ 11; decide, by show (11 : Int) ≤ 12; decide, rfl, ?_⟩, ?_⟩
    · exact ⟨f1, f5, f6, f10⟩
    · rfl
  by_cases k12 : kind = 12
  · subst k12
    refine ⟨⟨by show (1 : Int) ≤ 12; decide, by show (12 : Int) ≤ 12; decide, rfl, ?_⟩, ?_⟩
    · exact ⟨f1, f5⟩
    · rfl
  exfalso
  simp [Cm.wok, k1, k2, k3, k4, k5, k6, k7, k8, k9, k10, k11, k12] at h
/-! lengths -/
theorem flat_len {α : Type} {w : α → Bs} {B : Nat} : ∀ {l : List α}, (∀ x ∈ l, (w x).length ≤ B) → ((l.map w).flatten).length ≤ l.length * B
  | [], _ => by simp
  | a :: l, h => by
    have h1 := h a (List.mem_cons_self ..)
    have h2 := flat_len (l := l) fun x hx => h x (List.mem_cons_of_mem _ hx)
    simp only [List.map_cons, List.flatten_cons, List.length_append, List.length_cons, Nat.add_mul]
    omega
theorem lw_len {α : Type} {w : α → Bs} {B n : Nat} {l : List α} (hl : l.length ≤ n) (hn : n ≤ 65536) (h : ∀ x ∈ l, (w x).length ≤ B) : (lw w l).length ≤ 10 + n * B := by
  unfold lw
  have h1 := eInt_len (n := (l.length : Int)) ⟨by omega, by omega⟩
  have h2 := flat_len h
  have h3 := Nat.mul_le_mul_right B hl
  rw [List.length_append]
  omega
theorem Pt.w_len {p : Pt} (h : p.ok) : p.w.length ≤ 20 := by
  have h1 := eInt_len h.1; have h2 := eInt_len h.2
  unfold Pt.w; rw [List.length_append]; omega
theorem eInt4 : (eInt 4).length = 1 := by rw [eInt, show zig 4 = 8 by rfl, leb_small (by omega)]; rfl
theorem Col.w_len (c : Col) : c.w.length = 5 := by unfold Col.w; rw [List.length_append, eInt4]; rfl
theorem Stp.w_len {s : Stp} (h : I64 s.pos) : s.w.length ≤ 15 := by
  have h1 := eInt_len h; have h2 := s.col.w_len
  unfold Stp.w; rw [List.length_append]; omega
def Atr.small (a : Atr) : Prop := a.path.length ≤ 30 ∧ a.sty.fill.stops.length ≤ 30 ∧ a.sty.pen.stops.length ≤ 30 ∧ a.sty.dash.length ≤ 30
def Cm.small (c : Cm) : Prop := (∀ x ∈ c.ents, x.atr.small) ∧ c.ents.length ≤ 30 ∧ c.atr.small
theorem Pnt.w_len {p : Pnt} (h : p.fine) (hl : p.stops.length ≤ 30) : p.w.length ≤ 600 := by
  obtain ⟨h1, h2, h3, h4⟩ := h
  have e1 := eInt_len h1; have e2 := Pt.w_len h2; have e3 := Pt.w_len h3; have e4 := p.col.w_len
  have e5 := lw_len (w := Stp.w) hl (by omega) fun x hx => Stp.w_len (h4 x hx)
  unfold Pnt.w
  split
  · simp only [List.length_append]; omega
  · split
    · simp only [List.length_append]; omega
    · simp only [List.length_append, List.length_nil]; omega
theorem Sty.w_len {s : Sty} (h : s.fine) (h1 : s.fill.stops.length ≤ 30) (h2 : s.pen.stops.length ≤ 30) (h3 : s.dash.length ≤ 30) : s.w.length ≤ 1700 := by
  obtain ⟨k1, k2, k3, k4, k5, k6, k7, k8, k9⟩ := h
  have e1 := Pnt.w_len k1 h1; have e2 := Pnt.w_len k2 h2
  have e3 := eInt_len k3; have e4 := eInt_len k4; have e5 := eInt_len k5; have e7 := eInt_len k7; have e8 := eInt_len k8; have e9 := eInt_len k9
  have e6 := lw_len (w := eInt) h3 (by omega) fun x hx => eInt_len (k6 x hx)
  unfold Sty.w
  simp only [List.length_append]
  omega
theorem Sg.w_len {s : Sg} (h : s.ok) : s.w.length ≤ 70 := by
  obtain ⟨h1, h2, h3, h4⟩ := h
  have e1 := eInt_len h1; have e2 := Pt.w_len h2; have e3 := Pt.w_len h3; have e4 := Pt.w_len h4
  unfold Sg.w
  have hn := need_le s.kind
  rcases (by omega : need s.kind = 0 ∨ need s.kind = 1 ∨ need s.kind = 2 ∨ need s.kind = 3) with h | h | h | h <;> simp [h] <;> omega
theorem Mtx.w_len {m : Mtx} (h : m.ok) : m.w.length ≤ 60 := by
  obtain ⟨h1, h2, h3, h4, h5, h6⟩ := h
  have e1 := eInt_len h1; have e2 := eInt_len h2; have e3 := eInt_len h3; have e4 := eInt_len h4; have e5 := eInt_len h5; have e6 := eInt_len h6
  unfold Mtx.w
  simp only [List.length_append]
  omega
theorem Atr.w_len {a : Atr} (h : a.fine) (hs : a.small) : a.w.length ≤ 4000 := by
  obtain ⟨h1, h2, h3⟩ := h
  have e1 := Mtx.w_len h1
  have e2 := Sty.w_len h2 hs.2.1 hs.2.2.1 hs.2.2.2
  have e3 := lw_len (w := Sg.w) hs.1 (by omega) fun x hx => Sg.w_len (h3 x hx)
  unfold Atr.w
  simp only [List.length_append]
  omega
theorem Ent.w_len {x : Ent} (h : x.fine) (hs : x.atr.small) : x.w.length ≤ 4030 := by
  have e1 := eInt_len h.1; have e2 := eInt_len h.2.1; have e3 := Atr.w_len h.2.2 hs
  have e4 : (eInt (if x.grp then 1 else 0)).length ≤ 10 := eInt_len (by split <;> exact ⟨by decide, by decide⟩)
  unfold Ent.w
  simp only [List.length_append]
  omega
theorem ents_len {l : List Ent} (h : ∀ x ∈ l, x.fine) (h1 : l.length ≤ 30) (h2 : ∀ x ∈ l, x.atr.small) : (lw Ent.w l).length ≤ 130000 := by
  have := lw_len (w := Ent.w) h1 (by omega) fun x hx => Ent.w_len (h x hx) (h2 x hx)
  omega
theorem ite_len {c : Prop} [Decidable c] {a b : Bs} {n : Nat} (ha : a.length ≤ n) (hb : b.length ≤ n) : (if c then a else b).length ≤ n := by split <;> assumption
theorem Cm.w_len {c : Cm} (h : c.fine) (hs : c.small) : c.w.length ≤ 200000 := by
  have e0 := eInt_len h.kind; have e1 := eInt_len h.id; have e2 := eInt_len h.parent; have e3 := eInt_len h.index; have e4 := eInt_len h.count; have e5 := eInt_len h.i; have e6 := eInt_len h.k
  have e7 := ents_len h.ents hs.2.1 hs.1
  have e8 := Atr.w_len h.atr hs.2.2
  have e9 := Sg.w_len h.seg; have e10 := Pt.w_len h.point
  have e11 := Mtx.w_len h.atr.1
  have e12 := Sty.w_len h.atr.2.1 hs.2.2.2.1 hs.2.2.2.2.1 hs.2.2.2.2.2
  have e13 := lw_len (w := Sg.w) hs.2.2.1 (by omega) fun x hx => Sg.w_len (h.atr.2.2 x hx)
  have key : c.tail.length ≤ 199000 := by
    unfold Cm.tail
    refine ite_len (by (try simp only [List.length_append]); omega) ?_
    refine ite_len (by (try simp only [List.length_append]); omega) ?_
    refine ite_len (by (try simp only [List.length_append]); omega) ?_
    refine ite_len (by (try simp only [List.length_append]); omega) ?_
    refine ite_len (by (try simp only [List.length_append]); omega) ?_
    refine ite_len (by (try simp only [List.length_append]); omega) ?_
    refine ite_len (by (try simp only [List.length_append]); omega) ?_
    refine ite_len (by (try simp only [List.length_append]); omega) ?_
    refine ite_len (by (try simp only [List.length_append]); omega) ?_
    refine ite_len (by (try simp only [List.length_append]); omega) ?_
    refine ite_len (by (try simp only [List.length_append]); omega) ?_
    refine ite_len (by (try simp only [List.length_append]); omega) ?_
    simp
  unfold Cm.w
  rw [List.length_append]
  omega
/-! what a command's bytes are read as -/
theorem reads_back {α : Type} {w : α → Bs} {ok : α → Prop} {x y : α} {s' : Option Bs} (h : Reads w ok (some (w y)) x s') (hy : ok y) : x = y ∧ s' = some [] :=
  h.whole y [] hy (by rw [List.append_nil])
end Go.Cd
