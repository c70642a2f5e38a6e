/-
  Code, in plain Lean: the things that commands are made of, their bytes, their cells.
-/
import Derived.Test.YtfdeckdongonnaaDoorC0
namespace Go.Cd
open Go.Sl
set_option linter.unusedVariables false
set_option maxRecDepth 100000

structure Pt where (x y : Int) deriving DecidableEq
structure Col where (r g b a : Fin 256) deriving DecidableEq
structure Stp where (pos : Int) (col : Col) deriving DecidableEq
structure Pnt where (kind : Int) (col : Col) (frm to : Pt) (stops : List Stp) deriving DecidableEq
structure Sty where (fill pen : Pnt) (rule half cap : Int) (dash : List Int) (phase opac mode : Int) deriving DecidableEq
structure Sg where (kind : Int) (p0 p1 p2 : Pt) deriving DecidableEq
structure Mtx where (a b c d e f : Int) deriving DecidableEq
structure Atr where (mtx : Mtx) (sty : Sty) (path : List Sg) deriving DecidableEq
structure Ent where (id : Int) (grp : Bool) (kids : Int) (atr : Atr) deriving DecidableEq
structure Cm where (kind id parent index count i k : Int) (ents : List Ent) (atr : Atr) (seg : Sg) (point : Pt) deriving DecidableEq

abbrev vi (n : Int) : Value := .int .i64 n
/-! cells -/
abbrev Pt.cs (p : Pt) : List Value := [vi p.x, vi p.y]
abbrev Col.cs (c : Col) : List Value := [byt c.r, byt c.g, byt c.b, byt c.a]
abbrev Stp.cs (s : Stp) : List Value := [vi s.pos, byt s.col.r, byt s.col.g, byt s.col.b, byt s.col.a]
abbrev Sg.cs (s : Sg) : List Value := [vi s.kind, vi s.p0.x, vi s.p0.y, vi s.p1.x, vi s.p1.y, vi s.p2.x, vi s.p2.y]
abbrev Mtx.cs (m : Mtx) : List Value := [vi m.a, vi m.b, vi m.c, vi m.d, vi m.e, vi m.f]
abbrev Pnt.cs (p : Pnt) (t : Value) : List Value := [vi p.kind, byt p.col.r, byt p.col.g, byt p.col.b, byt p.col.a, vi p.frm.x, vi p.frm.y, vi p.to.x, vi p.to.y, t]
abbrev Sty.cs (s : Sty) (t u d : Value) : List Value := vi s.fill.kind :: byt s.fill.col.r :: byt s.fill.col.g :: byt s.fill.col.b :: byt s.fill.col.a :: vi s.fill.frm.x :: vi s.fill.frm.y :: vi s.fill.to.x :: vi s.fill.to.y :: t :: vi s.pen.kind :: byt s.pen.col.r :: byt s.pen.col.g :: byt s.pen.col.b :: byt s.pen.col.a :: vi s.pen.frm.x :: vi s.pen.frm.y :: vi s.pen.to.x :: vi s.pen.to.y :: u :: vi s.rule :: vi s.half :: vi s.cap :: d :: vi s.phase :: vi s.opac :: vi s.mode :: []
abbrev Atr.cs (a : Atr) (t u d q : Value) : List Value := vi a.mtx.a :: vi a.mtx.b :: vi a.mtx.c :: vi a.mtx.d :: vi a.mtx.e :: vi a.mtx.f :: vi a.sty.fill.kind :: byt a.sty.fill.col.r :: byt a.sty.fill.col.g :: byt a.sty.fill.col.b :: byt a.sty.fill.col.a :: vi a.sty.fill.frm.x :: vi a.sty.fill.frm.y :: vi a.sty.fill.to.x :: vi a.sty.fill.to.y :: t :: vi a.sty.pen.kind :: byt a.sty.pen.col.r :: byt a.sty.pen.col.g :: byt a.sty.pen.col.b :: byt a.sty.pen.col.a :: vi a.sty.pen.frm.x :: vi a.sty.pen.frm.y :: vi a.sty.pen.to.x :: vi a.sty.pen.to.y :: u :: vi a.sty.rule :: vi a.sty.half :: vi a.sty.cap :: d :: vi a.sty.phase :: vi a.sty.opac :: vi a.sty.mode :: q :: []
abbrev Ent.cs (x : Ent) (t u d q : Value) : List Value := vi x.id :: .bool x.grp :: vi x.kids :: vi x.atr.mtx.a :: vi x.atr.mtx.b :: vi x.atr.mtx.c :: vi x.atr.mtx.d :: vi x.atr.mtx.e :: vi x.atr.mtx.f :: vi x.atr.sty.fill.kind :: byt x.atr.sty.fill.col.r :: byt x.atr.sty.fill.col.g :: byt x.atr.sty.fill.col.b :: byt x.atr.sty.fill.col.a :: vi x.atr.sty.fill.frm.x :: vi x.atr.sty.fill.frm.y :: vi x.atr.sty.fill.to.x :: vi x.atr.sty.fill.to.y :: t :: vi x.atr.sty.pen.kind :: byt x.atr.sty.pen.col.r :: byt x.atr.sty.pen.col.g :: byt x.atr.sty.pen.col.b :: byt x.atr.sty.pen.col.a :: vi x.atr.sty.pen.frm.x :: vi x.atr.sty.pen.frm.y :: vi x.atr.sty.pen.to.x :: vi x.atr.sty.pen.to.y :: u :: vi x.atr.sty.rule :: vi x.atr.sty.half :: vi x.atr.sty.cap :: d :: vi x.atr.sty.phase :: vi x.atr.sty.opac :: vi x.atr.sty.mode :: q :: []
abbrev Cm.cs (c : Cm) (e t u d q : Value) : List Value := vi c.kind :: vi c.id :: vi c.parent :: vi c.index :: vi c.count :: vi c.i :: vi c.k :: e :: vi c.atr.mtx.a :: vi c.atr.mtx.b :: vi c.atr.mtx.c :: vi c.atr.mtx.d :: vi c.atr.mtx.e :: vi c.atr.mtx.f :: vi c.atr.sty.fill.kind :: byt c.atr.sty.fill.col.r :: byt c.atr.sty.fill.col.g :: byt c.atr.sty.fill.col.b :: byt c.atr.sty.fill.col.a :: vi c.atr.sty.fill.frm.x :: vi c.atr.sty.fill.frm.y :: vi c.atr.sty.fill.to.x :: vi c.atr.sty.fill.to.y :: t :: vi c.atr.sty.pen.kind :: byt c.atr.sty.pen.col.r :: byt c.atr.sty.pen.col.g :: byt c.atr.sty.pen.col.b :: byt c.atr.sty.pen.col.a :: vi c.atr.sty.pen.frm.x :: vi c.atr.sty.pen.frm.y :: vi c.atr.sty.pen.to.x :: vi c.atr.sty.pen.to.y :: u :: vi c.atr.sty.rule :: vi c.atr.sty.half :: vi c.atr.sty.cap :: d :: vi c.atr.sty.phase :: vi c.atr.sty.opac :: vi c.atr.sty.mode :: q :: vi c.seg.kind :: vi c.seg.p0.x :: vi c.seg.p0.y :: vi c.seg.p1.x :: vi c.seg.p1.y :: vi c.seg.p2.x :: vi c.seg.p2.y :: vi c.point.x :: vi c.point.y :: []

def All2 {α β : Type} (R : α → β → Prop) : List α → List β → Prop
  | [], [] => True
  | a :: l, b :: r => R a b ∧ All2 R l r
  | _, _ => False
theorem All2.imp {α β : Type} {R S : α → β → Prop} (h : ∀ a b, R a b → S a b) : ∀ {l : List α} {r : List β}, All2 R l r → All2 S l r
  | [], [], _ => trivial
  | _ :: _, _ :: _, ⟨h1, h2⟩ => ⟨h _ _ h1, All2.imp h h2⟩
  | [], _ :: _, hh => hh.elim
  | _ :: _, [], hh => hh.elim
theorem All2.snoc {α β : Type} {R : α → β → Prop} {a : α} {b : β} (h : R a b) : ∀ {l : List α} {r : List β}, All2 R l r → All2 R (l ++ [a]) (r ++ [b])
  | [], [], _ => ⟨h, trivial⟩
  | _ :: _, _ :: _, ⟨h1, h2⟩ => ⟨h1, All2.snoc h h2⟩
  | [], _ :: _, hh => hh.elim
  | _ :: _, [], hh => hh.elim
/-- A thing's cells, in the immutable heap. -/
abbrev Rep (α : Type) := Mem → α → List Value → Prop
def LsAt {α : Type} (R : Rep α) (I : Mem) (l : List α) (v : Value) : Prop := ∃ css, SlAt I v l.length css.flatten ∧ All2 (R I) l css
class RepMono {α : Type} (R : Rep α) : Prop where
  mono : ∀ {I I' : Mem} {x : α} {cs : List Value}, R I x cs → I.le I' → R I' x cs
theorem LsAt.mono {α : Type} {R : Rep α} [hR : RepMono R] {I I' : Mem} {l : List α} {v : Value} (h : LsAt R I l v) (hI : I.le I') : LsAt R I' l v := by
  obtain ⟨css, h1, h2⟩ := h
  exact ⟨css, h1.mono hI, h2.imp fun a b h => hR.mono h hI⟩
theorem LsAt.nil {α : Type} (R : Rep α) (I : Mem) : LsAt R I [] (.slice none 0 0) := ⟨[], SlAt.nil I, trivial⟩
def Int.rep : Rep Int := fun _ n cs => cs = [vi n] ∧ I64 n
def Pt.ok (p : Pt) : Prop := I64 p.x ∧ I64 p.y
def Pt.rep : Rep Pt := fun _ p cs => cs = p.cs ∧ p.ok
def Col.rep : Rep Col := fun _ c cs => cs = c.cs
def Stp.rep : Rep Stp := fun _ s cs => cs = s.cs ∧ I64 s.pos
def Sg.ok (s : Sg) : Prop := I64 s.kind ∧ s.p0.ok ∧ s.p1.ok ∧ s.p2.ok
def Sg.rep : Rep Sg := fun _ s cs => cs = s.cs ∧ s.ok
def Mtx.ok (m : Mtx) : Prop := I64 m.a ∧ I64 m.b ∧ I64 m.c ∧ I64 m.d ∧ I64 m.e ∧ I64 m.f
def Mtx.rep : Rep Mtx := fun _ m cs => cs = m.cs ∧ m.ok
structure Pnt.at_ (I : Mem) (p : Pnt) (t : Value) : Prop where
  kind : I64 p.kind
  frm : p.frm.ok
  to : p.to.ok
  stops : LsAt Stp.rep I p.stops t
structure Sty.at_ (I : Mem) (s : Sty) (t u d : Value) : Prop where
  fill : s.fill.at_ I t
  pen : s.pen.at_ I u
  rule : I64 s.rule
  half : I64 s.half
  cap : I64 s.cap
  dash : LsAt Int.rep I s.dash d
  phase : I64 s.phase
  opac : I64 s.opac
  mode : I64 s.mode
structure Atr.at_ (I : Mem) (a : Atr) (t u d q : Value) : Prop where
  mtx : a.mtx.ok
  sty : a.sty.at_ I t u d
  path : LsAt Sg.rep I a.path q
structure Ent.at_ (I : Mem) (x : Ent) (t u d q : Value) : Prop where
  id : I64 x.id
  kids : I64 x.kids
  atr : x.atr.at_ I t u d q
def Pnt.rep : Rep Pnt := fun I p cs => ∃ t, cs = p.cs t ∧ p.at_ I t
def Sty.rep : Rep Sty := fun I s cs => ∃ t u d, cs = s.cs t u d ∧ s.at_ I t u d
def Atr.rep : Rep Atr := fun I s cs => ∃ t u d q, cs = s.cs t u d q ∧ s.at_ I t u d q
def Ent.rep : Rep Ent := fun I s cs => ∃ t u d q, cs = s.cs t u d q ∧ s.at_ I t u d q
structure Cm.at_ (I : Mem) (c : Cm) (e t u d q : Value) : Prop where
  kind : I64 c.kind
  id : I64 c.id
  parent : I64 c.parent
  index : I64 c.index
  count : I64 c.count
  i : I64 c.i
  k : I64 c.k
  ents : LsAt Ent.rep I c.ents e
  atr : c.atr.at_ I t u d q
  seg : c.seg.ok
  point : c.point.ok
def Cm.rep : Rep Cm := fun I s cs => ∃ e t u d q, cs = s.cs e t u d q ∧ s.at_ I e t u d q
instance : RepMono Int.rep := ⟨fun h _ => h⟩
instance : RepMono Pt.rep := ⟨fun h _ => h⟩
instance : RepMono Col.rep := ⟨fun h _ => h⟩
instance : RepMono Stp.rep := ⟨fun h _ => h⟩
instance : RepMono Sg.rep := ⟨fun h _ => h⟩
instance : RepMono Mtx.rep := ⟨fun h _ => h⟩
theorem Pnt.at_.mono {I I' : Mem} {p : Pnt} {t : Value} (h : p.at_ I t) (hI : I.le I') : p.at_ I' t := ⟨h.kind, h.frm, h.to, h.stops.mono hI⟩
theorem Sty.at_.mono {I I' : Mem} {p : Sty} {t u d : Value} (h : p.at_ I t u d) (hI : I.le I') : p.at_ I' t u d := ⟨h.fill.mono hI, h.pen.mono hI, h.rule, h.half, h.cap, h.dash.mono hI, h.phase, h.opac, h.mode⟩
theorem Atr.at_.mono {I I' : Mem} {p : Atr} {t u d q : Value} (h : p.at_ I t u d q) (hI : I.le I') : p.at_ I' t u d q := ⟨h.mtx, h.sty.mono hI, h.path.mono hI⟩
theorem Ent.at_.mono {I I' : Mem} {p : Ent} {t u d q : Value} (h : p.at_ I t u d q) (hI : I.le I') : p.at_ I' t u d q := ⟨h.id, h.kids, h.atr.mono hI⟩
instance : RepMono Pnt.rep := ⟨fun ⟨t, h1, h2⟩ hI => ⟨t, h1, h2.mono hI⟩⟩
instance : RepMono Sty.rep := ⟨fun ⟨t, u, d, h1, h2⟩ hI => ⟨t, u, d, h1, h2.mono hI⟩⟩
instance : RepMono Atr.rep := ⟨fun ⟨t, u, d, q, h1, h2⟩ hI => ⟨t, u, d, q, h1, h2.mono hI⟩⟩
instance : RepMono Ent.rep := ⟨fun ⟨t, u, d, q, h1, h2⟩ hI => ⟨t, u, d, q, h1, h2.mono hI⟩⟩
theorem Cm.at_.mono {I I' : Mem} {p : Cm} {e t u d q : Value} (h : p.at_ I e t u d q) (hI : I.le I') : p.at_ I' e t u d q :=
  ⟨h.kind, h.id, h.parent, h.index, h.count, h.i, h.k, h.ents.mono hI, h.atr.mono hI, h.seg, h.point⟩
instance : RepMono Cm.rep := ⟨fun ⟨e, t, u, d, q, h1, h2⟩ hI => ⟨e, t, u, d, q, h1, h2.mono hI⟩⟩

theorem LsAt.sl {α : Type} {R : Rep α} {I : Mem} {l : List α} {v : Value} (h : LsAt R I l v) : ∃ a cap, v = .slice a l.length cap := by
  obtain ⟨css, ⟨a, cap, hv, _⟩, _⟩ := h
  exact ⟨a, cap, hv⟩
theorem Pnt.at_.sl {I : Mem} {p : Pnt} {t : Value} (h : p.at_ I t) : ∃ a1 c1, t = .slice a1 p.stops.length c1 := h.stops.sl
theorem Sty.at_.sl {I : Mem} {s : Sty} {t u d : Value} (h : s.at_ I t u d) : ∃ a1 c1 a2 c2 a3 c3, t = .slice a1 s.fill.stops.length c1 ∧ u = .slice a2 s.pen.stops.length c2 ∧ d = .slice a3 s.dash.length c3 := by
  obtain ⟨a1, c1, h1⟩ := h.fill.stops.sl
  obtain ⟨a2, c2, h2⟩ := h.pen.stops.sl
  obtain ⟨a3, c3, h3⟩ := h.dash.sl
  exact ⟨a1, c1, a2, c2, a3, c3, h1, h2, h3⟩
theorem Atr.at_.sl {I : Mem} {s : Atr} {t u d q : Value} (h : s.at_ I t u d q) : ∃ a1 c1 a2 c2 a3 c3 a4 c4, t = .slice a1 s.sty.fill.stops.length c1 ∧ u = .slice a2 s.sty.pen.stops.length c2 ∧ d = .slice a3 s.sty.dash.length c3 ∧ q = .slice a4 s.path.length c4 := by
  obtain ⟨a1, c1, a2, c2, a3, c3, h1, h2, h3⟩ := h.sty.sl
  obtain ⟨a4, c4, h4⟩ := h.path.sl
  exact ⟨a1, c1, a2, c2, a3, c3, a4, c4, h1, h2, h3, h4⟩
theorem Ent.at_.sl {I : Mem} {s : Ent} {t u d q : Value} (h : s.at_ I t u d q) : ∃ a1 c1 a2 c2 a3 c3 a4 c4, t = .slice a1 s.atr.sty.fill.stops.length c1 ∧ u = .slice a2 s.atr.sty.pen.stops.length c2 ∧ d = .slice a3 s.atr.sty.dash.length c3 ∧ q = .slice a4 s.atr.path.length c4 := h.atr.sl
theorem Cm.at_.sl {I : Mem} {s : Cm} {e t u d q : Value} (h : s.at_ I e t u d q) : ∃ a0 c0 a1 c1 a2 c2 a3 c3 a4 c4, e = .slice a0 s.ents.length c0 ∧ t = .slice a1 s.atr.sty.fill.stops.length c1 ∧ u = .slice a2 s.atr.sty.pen.stops.length c2 ∧ d = .slice a3 s.atr.sty.dash.length c3 ∧ q = .slice a4 s.atr.path.length c4 := by
  obtain ⟨a0, c0, h0⟩ := h.ents.sl
  obtain ⟨a1, c1, a2, c2, a3, c3, a4, c4, h⟩ := h.atr.sl
  exact ⟨a0, c0, a1, c1, a2, c2, a3, c3, a4, c4, h0, h⟩

/-! zeros -/
abbrev Pt.z : Pt := ⟨0, 0⟩
abbrev Col.z : Col := ⟨0, 0, 0, 0⟩
abbrev Pnt.z : Pnt := ⟨0, Col.z, Pt.z, Pt.z, []⟩
abbrev Sty.z : Sty := ⟨Pnt.z, Pnt.z, 0, 0, 0, [], 0, 0, 0⟩
abbrev Sg.z : Sg := ⟨0, Pt.z, Pt.z, Pt.z⟩
abbrev Mtx.z : Mtx := ⟨0, 0, 0, 0, 0, 0⟩
abbrev Atr.z : Atr := ⟨Mtx.z, Sty.z, []⟩
abbrev Cm.z : Cm := ⟨0, 0, 0, 0, 0, 0, 0, [], Atr.z, Sg.z, Pt.z⟩

theorem i64_0 : I64 0 := ⟨by decide, by decide⟩
theorem Pt.z_ok : Pt.z.ok := ⟨i64_0, i64_0⟩
theorem Sg.z_ok : Sg.z.ok := ⟨i64_0, Pt.z_ok, Pt.z_ok, Pt.z_ok⟩
theorem Mtx.z_ok : Mtx.z.ok := ⟨i64_0, i64_0, i64_0, i64_0, i64_0, i64_0⟩
theorem Pnt.z_at (I : Mem) : Pnt.z.at_ I (.slice none 0 0) := ⟨i64_0, Pt.z_ok, Pt.z_ok, LsAt.nil _ _⟩
theorem Sty.z_at (I : Mem) : Sty.z.at_ I (.slice none 0 0) (.slice none 0 0) (.slice none 0 0) := ⟨Pnt.z_at I, Pnt.z_at I, i64_0, i64_0, i64_0, LsAt.nil _ _, i64_0, i64_0, i64_0⟩
theorem Atr.z_at (I : Mem) : Atr.z.at_ I (.slice none 0 0) (.slice none 0 0) (.slice none 0 0) (.slice none 0 0) := ⟨Mtx.z_ok, Sty.z_at I, LsAt.nil _ _⟩

/-! bytes -/
def need (k : Int) : Nat := if k = 1 ∨ k = 2 then 1 else if k = 3 then 2 else if k = 4 then 3 else 0
def Pt.w (p : Pt) : Bs := eInt p.x ++ eInt p.y
def Col.w (c : Col) : Bs := eInt 4 ++ [c.r, c.g, c.b, c.a]
def Stp.w (s : Stp) : Bs := eInt s.pos ++ s.col.w
def lw {α : Type} (w : α → Bs) (l : List α) : Bs := eInt l.length ++ (l.map w).flatten
def Pnt.w (p : Pnt) : Bs := eInt p.kind ++ (if p.kind = 1 then p.col.w else if p.kind = 2 ∨ p.kind = 3 then p.frm.w ++ p.to.w ++ lw Stp.w p.stops else [])
def Sty.w (s : Sty) : Bs := s.fill.w ++ s.pen.w ++ (eInt s.rule ++ eInt s.half ++ eInt s.cap) ++ lw eInt s.dash ++ (eInt s.phase ++ eInt s.opac ++ eInt s.mode)
def Sg.w (s : Sg) : Bs := eInt s.kind ++ (([s.p0, s.p1, s.p2].take (need s.kind)).map Pt.w).flatten
def Mtx.w (m : Mtx) : Bs := eInt m.a ++ eInt m.b ++ eInt m.c ++ eInt m.d ++ eInt m.e ++ eInt m.f
def Atr.w (a : Atr) : Bs := a.mtx.w ++ a.sty.w ++ lw Sg.w a.path
def Ent.w (x : Ent) : Bs := eInt x.id ++ eInt (if x.grp then 1 else 0) ++ eInt x.kids ++ x.atr.w
/-! plain things -/
def Pnt.plain (p : Pnt) : Prop := (p.kind = 0 ∧ p.col = Col.z ∧ p.frm = Pt.z ∧ p.to = Pt.z ∧ p.stops = []) ∨ (p.kind = 1 ∧ p.frm = Pt.z ∧ p.to = Pt.z ∧ p.stops = []) ∨ ((p.kind = 2 ∨ p.kind = 3) ∧ p.col = Col.z ∧ p.stops.length ≤ 16 ∧ p.frm.ok ∧ p.to.ok ∧ ∀ s ∈ p.stops, I64 s.pos)
def Sty.plain (s : Sty) : Prop := s.fill.plain ∧ s.pen.plain ∧ I64 s.rule ∧ I64 s.half ∧ I64 s.cap ∧ (s.dash.length ≤ 8 ∧ ∀ n ∈ s.dash, I64 n) ∧ I64 s.phase ∧ I64 s.opac ∧ I64 s.mode
def Sg.plain (s : Sg) : Prop := 1 ≤ s.kind ∧ s.kind ≤ 5 ∧ s.p0.ok ∧ s.p1.ok ∧ s.p2.ok ∧ (need s.kind ≤ 0 → s.p0 = Pt.z) ∧ (need s.kind ≤ 1 → s.p1 = Pt.z) ∧ (need s.kind ≤ 2 → s.p2 = Pt.z)
def Atr.plain (a : Atr) : Prop := a.mtx.ok ∧ a.sty.plain ∧ (a.path.length ≤ 4096 ∧ ∀ s ∈ a.path, s.plain)
def Ent.plain (x : Ent) : Prop := I64 x.id ∧ I64 x.kids ∧ x.atr.plain
def Cm.named (c : Cm) : Cm :=
  if c.kind = 1 then ⟨1, 0, c.parent, c.index, 0, 0, 0, c.ents, Atr.z, Sg.z, Pt.z⟩ else if c.kind = 2 then ⟨2, c.id, 0, 0, 0, 0, 0, [], Atr.z, Sg.z, Pt.z⟩ else if c.kind = 3 then ⟨3, c.id, c.parent, c.index, 0, 0, 0, [], Atr.z, Sg.z, Pt.z⟩ else if c.kind = 4 then ⟨4, c.id, c.parent, c.index, c.count, 0, 0, [], c.atr, Sg.z, Pt.z⟩ else if c.kind = 5 then ⟨5, c.id, 0, 0, 0, 0, 0, [], Atr.z, Sg.z, Pt.z⟩ else if c.kind = 6 then ⟨6, c.id, 0, 0, 0, 0, 0, [], ⟨c.atr.mtx, Sty.z, []⟩, Sg.z, Pt.z⟩ else if c.kind = 7 then ⟨7, c.id, 0, 0, 0, 0, 0, [], ⟨Mtx.z, c.atr.sty, []⟩, Sg.z, Pt.z⟩ else if c.kind = 8 then ⟨8, c.id, 0, 0, 0, 0, 0, [], ⟨Mtx.z, Sty.z, c.atr.path⟩, Sg.z, Pt.z⟩ else if c.kind = 9 then ⟨9, c.id, 0, 0, 0, c.i, 0, [], Atr.z, c.seg, Pt.z⟩ else if c.kind = 10 then ⟨10, c.id, 0, 0, 0, c.i, 0, [], Atr.z, Sg.z, Pt.z⟩ else if c.kind = 11 then ⟨11, c.id, 0, 0, 0, c.i, c.k, [], Atr.z, Sg.z, c.point⟩ else if c.kind = 12 then ⟨12, c.id, 0, 0, 0, c.i, 0, [], Atr.z, Sg.z, Pt.z⟩ else ⟨c.kind, c.id, 0, 0, 0, 0, 0, [], Atr.z, Sg.z, Pt.z⟩
def Cm.okK (c : Cm) : Prop :=
  if c.kind = 1 then I64 c.parent ∧ I64 c.index ∧ (c.ents.length ≤ 65536 ∧ ∀ x ∈ c.ents, x.plain) else if c.kind = 2 then I64 c.id else if c.kind = 3 then I64 c.id ∧ I64 c.parent ∧ I64 c.index else if c.kind = 4 then I64 c.id ∧ I64 c.parent ∧ I64 c.index ∧ I64 c.count ∧ c.atr.plain else if c.kind = 5 then I64 c.id else if c.kind = 6 then I64 c.id ∧ c.atr.mtx.ok else if c.kind = 7 then I64 c.id ∧ c.atr.sty.plain else if c.kind = 8 then I64 c.id ∧ (c.atr.path.length ≤ 4096 ∧ ∀ x ∈ c.atr.path, x.plain) else if c.kind = 9 then I64 c.id ∧ I64 c.i ∧ c.seg.plain else if c.kind = 10 then I64 c.id ∧ I64 c.i else if c.kind = 11 then I64 c.id ∧ I64 c.i ∧ I64 c.k ∧ c.point.ok else if c.kind = 12 then I64 c.id ∧ I64 c.i else True
def Cm.plain (c : Cm) : Prop := 1 ≤ c.kind ∧ c.kind ≤ 12 ∧ c.named = c ∧ c.okK
/-- What stands behind the kind. -/
def Cm.tail (c : Cm) : Bs :=
  if c.kind = 1 then eInt c.parent ++ eInt c.index ++ lw Ent.w c.ents else if c.kind = 2 then eInt c.id else if c.kind = 3 then eInt c.id ++ eInt c.parent ++ eInt c.index else if c.kind = 4 then eInt c.id ++ eInt c.parent ++ eInt c.index ++ eInt c.count ++ c.atr.w else if c.kind = 5 then eInt c.id else if c.kind = 6 then eInt c.id ++ c.atr.mtx.w else if c.kind = 7 then eInt c.id ++ c.atr.sty.w else if c.kind = 8 then eInt c.id ++ lw Sg.w c.atr.path else if c.kind = 9 then eInt c.id ++ eInt c.i ++ c.seg.w else if c.kind = 10 then eInt c.id ++ eInt c.i else if c.kind = 11 then eInt c.id ++ eInt c.i ++ eInt c.k ++ c.point.w else if c.kind = 12 then eInt c.id ++ eInt c.i else []
def Cm.w (c : Cm) : Bs := eInt c.kind ++ c.tail
/-! readers -/
theorem Reads.also {α : Type} {w : α → Bs} {ok : α → Prop} {s : Option Bs} {x : α} {s' : Option Bs} (P : α → Prop) (h : Reads w ok s x s') (hP : P x) : Reads w (fun x => ok x ∧ P x) s x s' :=
  ⟨fun r hr => ⟨⟨(h.sound r hr).1, hP⟩, (h.sound r hr).2⟩, fun y r hy hs => h.whole y r hy.1 hs⟩
theorem Reads.refuse {α : Type} {w : α → Bs} {ok : α → Prop} {s : Option Bs} {x : α} {s' : Option Bs} (P : α → Prop) (h : Reads w ok s x s') (hP : ¬ P x) (y : α) : Reads w (fun x => ok x ∧ P x) s y none :=
  Reads.bad fun z r hz hs => hP (by rw [(h.whole z r hz.1 hs).1]; exact hz.2)
theorem Reads.lift {α : Type} {w : α → Bs} {ok : α → Prop} {bs bs' : Bs} {x : α} {b1 b1' : Bool} (b2 : Bool) (h : Reads w ok (st b1 false bs) x (st b1' false bs')) : Reads w ok (st b1 b2 bs) x (st b1' b2 bs') := by
  cases b2
  · exact h
  · have e : ∀ b bs, st b true bs = none := fun b bs => by simp [st]
    rw [e, e]
    exact Reads.nil
theorem Reads.pair {α β γ : Type} {w1 : α → Bs} {w2 : β → Bs} {w : γ → Bs} {ok1 : α → Prop} {ok2 : β → Prop} {ok : γ → Prop} {s s1 s2 : Option Bs} {x : α} {y : β} {z : γ}
    (h1 : Reads w1 ok1 s x s1) (h2 : Reads w2 ok2 s1 y s2) (f : γ → α) (g : γ → β) (hw : ∀ c, ok c → w c = w1 (f c) ++ w2 (g c) ∧ ok1 (f c) ∧ ok2 (g c)) (hz : ok1 x → ok2 y → ok z ∧ f z = x ∧ g z = y)
    (hi : ∀ c, ok c → f c = x → g c = y → z = c) : Reads w ok s z s2 := by
  refine ⟨fun r hr => ?_, fun c r hc hs => ?_⟩
  · obtain ⟨o2, e2⟩ := h2.sound r hr
    obtain ⟨o1, e1⟩ := h1.sound _ e2
    obtain ⟨o, a, b⟩ := hz o1 o2
    refine ⟨o, ?_⟩
    rw [e1, (hw z o).1, a, b, List.append_assoc]
  · obtain ⟨e, o1, o2⟩ := hw c hc
    rw [e, List.append_assoc] at hs
    obtain ⟨a, b⟩ := h1.whole _ _ o1 hs
    obtain ⟨a', b'⟩ := h2.whole _ _ o2 b
    exact ⟨hi c hc a.symm a'.symm, b'⟩
/-- One thing behind another, as it is. -/
theorem Reads.two {α β : Type} {w1 : α → Bs} {w2 : β → Bs} {ok1 : α → Prop} {ok2 : β → Prop} {s s1 s2 : Option Bs} {x : α} {y : β}
    (h1 : Reads w1 ok1 s x s1) (h2 : Reads w2 ok2 s1 y s2) : Reads (fun c : α × β => w1 c.1 ++ w2 c.2) (fun c => ok1 c.1 ∧ ok2 c.2) s (x, y) s2 :=
  h1.pair h2 (·.1) (·.2) (fun c h => ⟨rfl, h⟩) (fun a b => ⟨⟨a, b⟩, rfl, rfl⟩) (fun c _ a b => by rw [← a, ← b])
theorem Reads.map {α γ : Type} {w1 : α → Bs} {w : γ → Bs} {ok1 : α → Prop} {ok : γ → Prop} {s s1 : Option Bs} {x : α} {z : γ}
    (h1 : Reads w1 ok1 s x s1) (f : γ → α) (hw : ∀ c, ok c → w c = w1 (f c) ∧ ok1 (f c)) (hz : ok1 x → ok z ∧ f z = x) (hi : ∀ c, ok c → f c = x → z = c) : Reads w ok s z s1 := by
  refine ⟨fun r hr => ?_, fun c r hc hs => ?_⟩
  · obtain ⟨o1, e1⟩ := h1.sound _ hr
    obtain ⟨o, a⟩ := hz o1
    exact ⟨o, by rw [e1, (hw z o).1, a]⟩
  · obtain ⟨e, o1⟩ := hw c hc
    rw [e] at hs
    obtain ⟨a, b⟩ := h1.whole _ _ o1 hs
    exact ⟨hi c hc a.symm, b⟩
/-- A list, one by one. -/
theorem Reads.snoc {α : Type} {w : α → Bs} {ok : α → Prop} {s s1 s2 : Option Bs} {l : List α} {x : α} {k : Nat}
    (h1 : Reads (fun l : List α => (l.map w).flatten) (fun l => l.length = k ∧ ∀ x ∈ l, ok x) s l s1) (h2 : Reads w ok s1 x s2) :
    Reads (fun l : List α => (l.map w).flatten) (fun l => l.length = k + 1 ∧ ∀ x ∈ l, ok x) s (l ++ [x]) s2 := by
  refine ⟨fun r hr => ?_, fun c r hc hs => ?_⟩
  · obtain ⟨o2, e2⟩ := h2.sound r hr
    obtain ⟨⟨hl, o1⟩, e1⟩ := h1.sound _ e2
    refine ⟨⟨by simp [hl], fun y hy => ?_⟩, ?_⟩
    · rcases List.mem_append.1 hy with hy | hy
      · exact o1 y hy
      · rw [List.mem_singleton.1 hy]; exact o2
    · rw [e1]; simp
  · obtain ⟨hl, hall⟩ := hc
    have hne : c ≠ [] := by intro h; subst h; simp at hl
    have hc' : c = c.dropLast ++ [c.getLast hne] := (List.dropLast_concat_getLast hne).symm
    rw [hc'] at hs
    simp only [List.map_append, List.map_cons, List.map_nil, List.flatten_append, List.flatten_cons, List.flatten_nil, List.append_nil, List.append_assoc] at hs
    obtain ⟨a, b⟩ := h1.whole c.dropLast _ ⟨by simp [hl], fun y hy => hall y ((List.dropLast_sublist _).subset hy)⟩ hs
    obtain ⟨a', b'⟩ := h2.whole _ _ (hall _ (List.getLast_mem hne)) b
    exact ⟨by rw [a, a']; exact hc'.symm, b'⟩
theorem Reads.list {α : Type} {w : α → Bs} {ok : α → Prop} {s s1 s2 : Option Bs} {l : List α} {n most : Int}
    (h1 : Reads eInt (fun n => I64 n ∧ 0 ≤ n ∧ n ≤ most) s n s1) (h2 : Reads (fun l : List α => (l.map w).flatten) (fun l => l.length = n.toNat ∧ ∀ x ∈ l, ok x) s1 l s2) (hm : most < 9223372036854775808) :
    Reads (lw w) (fun l => (l.length : Int) ≤ most ∧ ∀ x ∈ l, ok x) s l s2 := by
  refine ⟨fun r hr => ?_, fun c r hc hs => ?_⟩
  · obtain ⟨⟨hl, o2⟩, e2⟩ := h2.sound r hr
    obtain ⟨⟨_, o1, o1'⟩, e1⟩ := h1.sound _ e2
    have e : (l.length : Int) = n := by omega
    refine ⟨⟨by omega, o2⟩, ?_⟩
    rw [e1, lw, e, List.append_assoc]
  · obtain ⟨hl, hall⟩ := hc
    rw [lw, List.append_assoc] at hs
    obtain ⟨a, b⟩ := h1.whole (c.length : Int) _ ⟨⟨by omega, by omega⟩, by omega, hl⟩ hs
    exact h2.whole c _ ⟨by omega, hall⟩ b
/-- A kind, and what it names. -/
theorem Reads.pick {γ : Type} {w : γ → Bs} {ok : γ → Prop} {s s1 s2 : Option Bs} {n : Int} {z : γ} (h1 : Reads eInt I64 s n s1) (g : γ → Int) (tail : γ → Bs)
    (hw : ∀ c, ok c → w c = eInt (g c) ++ tail c ∧ I64 (g c)) (h2 : Reads tail (fun c => ok c ∧ g c = n) s1 z s2) : Reads w ok s z s2 := by
  refine ⟨fun r hr => ?_, fun c r hc hs => ?_⟩
  · obtain ⟨⟨o2, k2⟩, e2⟩ := h2.sound r hr
    obtain ⟨_, e1⟩ := h1.sound _ e2
    exact ⟨o2, by rw [e1, (hw z o2).1, k2, List.append_assoc]⟩
  · obtain ⟨e, o⟩ := hw c hc
    rw [e, List.append_assoc] at hs
    obtain ⟨a, b⟩ := h1.whole _ _ o hs
    exact h2.whole c r ⟨hc, a.symm⟩ b
theorem Reads.one {γ : Type} {w : γ → Bs} {ok : γ → Prop} {s : Option Bs} {z : γ} (hz : ok z) (hw : ∀ c, ok c → z = c ∧ w c = []) : Reads w ok s z s :=
  ⟨fun r hr => ⟨hz, by rw [hr, (hw z hz).2]; rfl⟩, fun c r hc hs => ⟨(hw c hc).1, by rw [hs, (hw c hc).2]; rfl⟩⟩
theorem Reads.cutoff {α : Type} {w : α → Bs} {ok : α → Prop} {s : Option Bs} {l : List α} {k n : Nat}
    (h : Reads (fun l : List α => (l.map w).flatten) (fun l => l.length = k ∧ ∀ x ∈ l, ok x) s l none) (hk : k ≤ n) : Reads (fun l : List α => (l.map w).flatten) (fun l => l.length = n ∧ ∀ x ∈ l, ok x) s l none := by
  refine Reads.bad fun y r hy hs => ?_
  have e : y = y.take k ++ y.drop k := (List.take_append_drop k y).symm
  rw [e] at hs
  simp only [List.map_append, List.flatten_append, List.append_assoc] at hs
  have := (h.whole (y.take k) _ ⟨by simp; omega, fun x hx => hy.2 x (List.mem_of_mem_take hx)⟩ hs).2
  cases this
theorem Reads.start {α : Type} {w : α → Bs} {ok : α → Prop} {s : Option Bs} : Reads (fun l : List α => (l.map w).flatten) (fun l => l.length = 0 ∧ ∀ x ∈ l, ok x) s [] s :=
  ⟨fun r hr => ⟨⟨rfl, fun _ h => nomatch h⟩, hr⟩, fun y r hy hs => by
    obtain rfl := List.eq_nil_of_length_eq_zero hy.1
    exact ⟨rfl, hs⟩⟩
def tw (t : Bs) : Bs := eInt t.length ++ t
def tok (t : Bs) : Prop := I64 t.length
end Go.Cd
