/-
  Drawings, in plain Lean: the things that commands are made of, and their cells.
-/
import Derived.Test.YtggcpoleklcmkaaGreatDoorX3
import Derived.Test.YtggcpoleklcmkaaGreatDoorY1
import Derived.Test.YtggcpoleklcmkaaGreatDoorX4
import Derived.Test.YtggcpoleklcmkaaGreatDoorX2
namespace Go.Dc
open Go.Sl Go.Ls
set_option linter.unusedVariables false
set_option linter.unusedSimpArgs false
set_option maxRecDepth 100000
theorem i64z : I64 0 := ⟨by decide, by decide⟩
structure Pt where (x y : Int) deriving DecidableEq
structure Col where (r g b a : Fin 256) deriving DecidableEq
structure Stp where (pos : Int) (col : Col) deriving DecidableEq
structure Pnt where (kind : Int) (col : Col) (frm to : Pt) (stops : List Stp) deriving DecidableEq
structure Sty where (fill pen : Pnt) (rule half cap : Int) (dash : List Int) (phase opac mode : Int) deriving DecidableEq
structure Sg where (kind : Int) (p0 p1 p2 : Pt) deriving DecidableEq
structure Mtx where (a b c d e f : Int) deriving DecidableEq
structure Atr where (mtx : Mtx) (sty : Sty) (path : List Sg) deriving DecidableEq
structure Ent where (id : Int) (grp : Bool) (kids : Int) (atr : Atr) deriving DecidableEq
structure Cm where (kind id parent index count i k : Int) (ents : List Ent) (atr : Atr) (seg : Sg) (point : Pt) deriving DecidableEq

/-! cells -/
abbrev Pt.cs (p : Pt) : List Value := [vi p.x, vi p.y]
abbrev Col.cs (c : Col) : List Value := [byt c.r, byt c.g, byt c.b, byt c.a]
abbrev Stp.cs (s : Stp) : List Value := [vi s.pos, byt s.col.r, byt s.col.g, byt s.col.b, byt s.col.a]
abbrev Sg.cs (s : Sg) : List Value := [vi s.kind, vi s.p0.x, vi s.p0.y, vi s.p1.x, vi s.p1.y, vi s.p2.x, vi s.p2.y]
abbrev Mtx.cs (m : Mtx) : List Value := [vi m.a, vi m.b, vi m.c, vi m.d, vi m.e, vi m.f]
abbrev Pnt.cs (p : Pnt) (t : Value) : List Value := [vi p.kind, byt p.col.r, byt p.col.g, byt p.col.b, byt p.col.a, vi p.frm.x, vi p.frm.y, vi p.to.x, vi p.to.y, t]
abbrev Sty.cs (s : Sty) (t u d : Value) : List Value := vi s.fill.kind :: byt s.fill.col.r :: byt s.fill.col.g :: byt s.fill.col.b :: byt s.fill.col.a :: vi s.fill.frm.x :: vi s.fill.frm.y :: vi s.fill.to.x :: vi s.fill.to.y :: t :: vi s.pen.kind :: byt s.pen.col.r :: byt s.pen.col.g :: byt s.pen.col.b :: byt s.pen.col.a :: vi s.pen.frm.x :: vi s.pen.frm.y :: vi s.pen.to.x :: vi s.pen.to.y :: u :: vi s.rule :: vi s.half :: vi s.cap :: d :: vi s.phase :: vi s.opac :: vi s.mode :: []
abbrev Atr.cs (a : Atr) (t u d q : Value) : List Value := vi a.mtx.a :: vi a.mtx.b :: vi a.mtx.c :: vi a.mtx.d :: vi a.mtx.e :: vi a.mtx.f :: vi a.sty.fill.kind :: byt a.sty.fill.col.r :: byt a.sty.fill.col.g :: byt a.sty.fill.col.b :: byt a.sty.fill.col.a :: vi a.sty.fill.frm.x :: vi a.sty.fill.frm.y :: vi a.sty.fill.to.x :: vi a.sty.fill.to.y :: t :: vi a.sty.pen.kind :: byt a.sty.pen.col.r :: byt a.sty.pen.col.g :: byt a.sty.pen.col.b :: byt a.sty.pen.col.a :: vi a.sty.pen.frm.x :: vi a.sty.pen.frm.y :: vi a.sty.pen.to.x :: vi a.sty.pen.to.y :: u :: vi a.sty.rule :: vi a.sty.half :: vi a.sty.cap :: d :: vi a.sty.phase :: vi a.sty.opac :: vi a.sty.mode :: q :: []
abbrev Ent.cs (x : Ent) (t u d q : Value) : List Value := vi x.id :: .bool x.grp :: vi x.kids :: vi x.atr.mtx.a :: vi x.atr.mtx.b :: vi x.atr.mtx.c :: vi x.atr.mtx.d :: vi x.atr.mtx.e :: vi x.atr.mtx.f :: vi x.atr.sty.fill.kind :: byt x.atr.sty.fill.col.r :: byt x.atr.sty.fill.col.g :: byt x.atr.sty.fill.col.b :: byt x.atr.sty.fill.col.a :: vi x.atr.sty.fill.frm.x :: vi x.atr.sty.fill.frm.y :: vi x.atr.sty.fill.to.x :: vi x.atr.sty.fill.to.y :: t :: vi x.atr.sty.pen.kind :: byt x.atr.sty.pen.col.r :: byt x.atr.sty.pen.col.g :: byt x.atr.sty.pen.col.b :: byt x.atr.sty.pen.col.a :: vi x.atr.sty.pen.frm.x :: vi x.atr.sty.pen.frm.y :: vi x.atr.sty.pen.to.x :: vi x.atr.sty.pen.to.y :: u :: vi x.atr.sty.rule :: vi x.atr.sty.half :: vi x.atr.sty.cap :: d :: vi x.atr.sty.phase :: vi x.atr.sty.opac :: vi x.atr.sty.mode :: q :: []
abbrev Cm.cs (c : Cm) (e t u d q : Value) : List Value := vi c.kind :: vi c.id :: vi c.parent :: vi c.index :: vi c.count :: vi c.i :: vi c.k :: e :: vi c.atr.mtx.a :: vi c.atr.mtx.b :: vi c.atr.mtx.c :: vi c.atr.mtx.d :: vi c.atr.mtx.e :: vi c.atr.mtx.f :: vi c.atr.sty.fill.kind :: byt c.atr.sty.fill.col.r :: byt c.atr.sty.fill.col.g :: byt c.atr.sty.fill.col.b :: byt c.atr.sty.fill.col.a :: vi c.atr.sty.fill.frm.x :: vi c.atr.sty.fill.frm.y :: vi c.atr.sty.fill.to.x :: vi c.atr.sty.fill.to.y :: t :: vi c.atr.sty.pen.kind :: byt c.atr.sty.pen.col.r :: byt c.atr.sty.pen.col.g :: byt c.atr.sty.pen.col.b :: byt c.atr.sty.pen.col.a :: vi c.atr.sty.pen.frm.x :: vi c.atr.sty.pen.frm.y :: vi c.atr.sty.pen.to.x :: vi c.atr.sty.pen.to.y :: u :: vi c.atr.sty.rule :: vi c.atr.sty.half :: vi c.atr.sty.cap :: d :: vi c.atr.sty.phase :: vi c.atr.sty.opac :: vi c.atr.sty.mode :: q :: vi c.seg.kind :: vi c.seg.p0.x :: vi c.seg.p0.y :: vi c.seg.p1.x :: vi c.seg.p1.y :: vi c.seg.p2.x :: vi c.seg.p2.y :: vi c.point.x :: vi c.point.y :: []

def Pt.ok (p : Pt) : Prop := I64 p.x ∧ I64 p.y
def Pt.rep : Rep Pt := fun _ p cs => cs = p.cs ∧ p.ok
def Col.rep : Rep Col := fun _ c cs => cs = c.cs
def Stp.rep : Rep Stp := fun _ s cs => cs = s.cs ∧ I64 s.pos
def Sg.ok (s : Sg) : Prop := I64 s.kind ∧ s.p0.ok ∧ s.p1.ok ∧ s.p2.ok
def Sg.rep : Rep Sg := fun _ s cs => cs = s.cs ∧ s.ok
def Mtx.ok (m : Mtx) : Prop := I64 m.a ∧ I64 m.b ∧ I64 m.c ∧ I64 m.d ∧ I64 m.e ∧ I64 m.f
def Mtx.rep : Rep Mtx := fun _ m cs => cs = m.cs ∧ m.ok
structure Pnt.at_ (I : Mem) (p : Pnt) (t : Value) : Prop where
  kind : I64 p.kind
  frm : p.frm.ok
  to : p.to.ok
  stops : LsAt Stp.rep I p.stops t
structure Sty.at_ (I : Mem) (s : Sty) (t u d : Value) : Prop where
  fill : s.fill.at_ I t
  pen : s.pen.at_ I u
  rule : I64 s.rule
  half : I64 s.half
  cap : I64 s.cap
  dash : LsAt Int.rep I s.dash d
  phase : I64 s.phase
  opac : I64 s.opac
  mode : I64 s.mode
structure Atr.at_ (I : Mem) (a : Atr) (t u d q : Value) : Prop where
  mtx : a.mtx.ok
  sty : a.sty.at_ I t u d
  path : LsAt Sg.rep I a.path q
structure Ent.at_ (I : Mem) (x : Ent) (t u d q : Value) : Prop where
  id : I64 x.id
  kids : I64 x.kids
  atr : x.atr.at_ I t u d q
def Pnt.rep : Rep Pnt := fun I p cs => ∃ t, cs = p.cs t ∧ p.at_ I t
def Sty.rep : Rep Sty := fun I s cs => ∃ t u d, cs = s.cs t u d ∧ s.at_ I t u d
def Atr.rep : Rep Atr := fun I s cs => ∃ t u d q, cs = s.cs t u d q ∧ s.at_ I t u d q
def Ent.rep : Rep Ent := fun I s cs => ∃ t u d q, cs = s.cs t u d q ∧ s.at_ I t u d q
structure Cm.at_ (I : Mem) (c : Cm) (e t u d q : Value) : Prop where
  kind : I64 c.kind
  id : I64 c.id
  parent : I64 c.parent
  index : I64 c.index
  count : I64 c.count
  i : I64 c.i
  k : I64 c.k
  ents : LsAt Ent.rep I c.ents e
  atr : c.atr.at_ I t u d q
  seg : c.seg.ok
  point : c.point.ok
def Cm.rep : Rep Cm := fun I s cs => ∃ e t u d q, cs = s.cs e t u d q ∧ s.at_ I e t u d q
instance : RepMono Pt.rep := ⟨fun h _ => h⟩
instance : RepMono Col.rep := ⟨fun h _ => h⟩
instance : RepMono Stp.rep := ⟨fun h _ => h⟩
instance : RepMono Sg.rep := ⟨fun h _ => h⟩
instance : RepMono Mtx.rep := ⟨fun h _ => h⟩
theorem Pnt.at_.mono {I I' : Mem} {p : Pnt} {t : Value} (h : p.at_ I t) (hI : I.le I') : p.at_ I' t := ⟨h.kind, h.frm, h.to, h.stops.mono hI⟩
theorem Sty.at_.mono {I I' : Mem} {p : Sty} {t u d : Value} (h : p.at_ I t u d) (hI : I.le I') : p.at_ I' t u d := ⟨h.fill.mono hI, h.pen.mono hI, h.rule, h.half, h.cap, h.dash.mono hI, h.phase, h.opac, h.mode⟩
theorem Atr.at_.mono {I I' : Mem} {p : Atr} {t u d q : Value} (h : p.at_ I t u d q) (hI : I.le I') : p.at_ I' t u d q := ⟨h.mtx, h.sty.mono hI, h.path.mono hI⟩
theorem Ent.at_.mono {I I' : Mem} {p : Ent} {t u d q : Value} (h : p.at_ I t u d q) (hI : I.le I') : p.at_ I' t u d q := ⟨h.id, h.kids, h.atr.mono hI⟩
instance : RepMono Pnt.rep := ⟨fun ⟨t, h1, h2⟩ hI => ⟨t, h1, h2.mono hI⟩⟩
instance : RepMono Sty.rep := ⟨fun ⟨t, u, d, h1, h2⟩ hI => ⟨t, u, d, h1, h2.mono hI⟩⟩
instance : RepMono Atr.rep := ⟨fun ⟨t, u, d, q, h1, h2⟩ hI => ⟨t, u, d, q, h1, h2.mono hI⟩⟩
instance : RepMono Ent.rep := ⟨fun ⟨t, u, d, q, h1, h2⟩ hI => ⟨t, u, d, q, h1, h2.mono hI⟩⟩
theorem Cm.at_.mono {I I' : Mem} {p : Cm} {e t u d q : Value} (h : p.at_ I e t u d q) (hI : I.le I') : p.at_ I' e t u d q :=
  ⟨h.kind, h.id, h.parent, h.index, h.count, h.i, h.k, h.ents.mono hI, h.atr.mono hI, h.seg, h.point⟩
instance : RepMono Cm.rep := ⟨fun ⟨e, t, u, d, q, h1, h2⟩ hI => ⟨e, t, u, d, q, h1, h2.mono hI⟩⟩

theorem Pnt.at_.sl {I : Mem} {p : Pnt} {t : Value} (h : p.at_ I t) : ∃ a1 c1, t = .slice a1 p.stops.length c1 := h.stops.sl
theorem Sty.at_.sl {I : Mem} {s : Sty} {t u d : Value} (h : s.at_ I t u d) : ∃ a1 c1 a2 c2 a3 c3, t = .slice a1 s.fill.stops.length c1 ∧ u = .slice a2 s.pen.stops.length c2 ∧ d = .slice a3 s.dash.length c3 := by
  obtain ⟨a1, c1, h1⟩ := h.fill.stops.sl
  obtain ⟨a2, c2, h2⟩ := h.pen.stops.sl
  obtain ⟨a3, c3, h3⟩ := h.dash.sl
  exact ⟨a1, c1, a2, c2, a3, c3, h1, h2, h3⟩
theorem Atr.at_.sl {I : Mem} {s : Atr} {t u d q : Value} (h : s.at_ I t u d q) : ∃ a1 c1 a2 c2 a3 c3 a4 c4, t = .slice a1 s.sty.fill.stops.length c1 ∧ u = .slice a2 s.sty.pen.stops.length c2 ∧ d = .slice a3 s.sty.dash.length c3 ∧ q = .slice a4 s.path.length c4 := by
  obtain ⟨a1, c1, a2, c2, a3, c3, h1, h2, h3⟩ := h.sty.sl
  obtain ⟨a4, c4, h4⟩ := h.path.sl
  exact ⟨a1, c1, a2, c2, a3, c3, a4, c4, h1, h2, h3, h4⟩
theorem Ent.at_.sl {I : Mem} {s : Ent} {t u d q : Value} (h : s.at_ I t u d q) : ∃ a1 c1 a2 c2 a3 c3 a4 c4, t = .slice a1 s.atr.sty.fill.stops.length c1 ∧ u = .slice a2 s.atr.sty.pen.stops.length c2 ∧ d = .slice a3 s.atr.sty.dash.length c3 ∧ q = .slice a4 s.atr.path.length c4 := h.atr.sl
theorem Cm.at_.sl {I : Mem} {s : Cm} {e t u d q : Value} (h : s.at_ I e t u d q) : ∃ a0 c0 a1 c1 a2 c2 a3 c3 a4 c4, e = .slice a0 s.ents.length c0 ∧ t = .slice a1 s.atr.sty.fill.stops.length c1 ∧ u = .slice a2 s.atr.sty.pen.stops.length c2 ∧ d = .slice a3 s.atr.sty.dash.length c3 ∧ q = .slice a4 s.atr.path.length c4 := by
  obtain ⟨a0, c0, h0⟩ := h.ents.sl
  obtain ⟨a1, c1, a2, c2, a3, c3, a4, c4, h⟩ := h.atr.sl
  exact ⟨a0, c0, a1, c1, a2, c2, a3, c3, a4, c4, h0, h⟩

/-! zeros -/
abbrev Pt.z : Pt := ⟨0, 0⟩
abbrev Col.z : Col := ⟨0, 0, 0, 0⟩
abbrev Pnt.z : Pnt := ⟨0, Col.z, Pt.z, Pt.z, []⟩
abbrev Sty.z : Sty := ⟨Pnt.z, Pnt.z, 0, 0, 0, [], 0, 0, 0⟩
abbrev Sg.z : Sg := ⟨0, Pt.z, Pt.z, Pt.z⟩
abbrev Mtx.z : Mtx := ⟨0, 0, 0, 0, 0, 0⟩
abbrev Atr.z : Atr := ⟨Mtx.z, Sty.z, []⟩
abbrev Cm.z : Cm := ⟨0, 0, 0, 0, 0, 0, 0, [], Atr.z, Sg.z, Pt.z⟩

theorem Pt.z_ok : Pt.z.ok := ⟨i64z, i64z⟩
theorem Sg.z_ok : Sg.z.ok := ⟨i64z, Pt.z_ok, Pt.z_ok, Pt.z_ok⟩
theorem Mtx.z_ok : Mtx.z.ok := ⟨i64z, i64z, i64z, i64z, i64z, i64z⟩
theorem Pnt.z_at (I : Mem) : Pnt.z.at_ I (.slice none 0 0) := ⟨i64z, Pt.z_ok, Pt.z_ok, LsAt.nil _ _⟩
theorem Sty.z_at (I : Mem) : Sty.z.at_ I (.slice none 0 0) (.slice none 0 0) (.slice none 0 0) := ⟨Pnt.z_at I, Pnt.z_at I, i64z, i64z, i64z, LsAt.nil _ _, i64z, i64z, i64z⟩
theorem Atr.z_at (I : Mem) : Atr.z.at_ I (.slice none 0 0) (.slice none 0 0) (.slice none 0 0) (.slice none 0 0) := ⟨Mtx.z_ok, Sty.z_at I, LsAt.nil _ _⟩


abbrev Ent.z : Ent := ⟨0, false, 0, Atr.z⟩
instance : RepLen Pt.rep 2 := ⟨fun h => by rw [h.1]; rfl⟩
instance : RepLen Stp.rep 5 := ⟨fun h => by rw [h.1]; rfl⟩
instance : RepLen Sg.rep 7 := ⟨fun h => by rw [h.1]; rfl⟩
instance : RepLen Atr.rep 34 := ⟨fun ⟨t, u, d, q, h, _⟩ => by rw [h]; rfl⟩
instance : RepLen Ent.rep 37 := ⟨fun ⟨t, u, d, q, h, _⟩ => by rw [h]; rfl⟩
instance : RepLen Cm.rep 51 := ⟨fun ⟨e, t, u, d, q, h, _⟩ => by rw [h]; rfl⟩
end Go.Dc

/-
  Drawings, in plain Lean: what is right, and what commands do.
-/

namespace Go.Dc
open Go.Sl Go.Ls Go.Tr
set_option linter.unusedVariables false
set_option linter.unusedSimpArgs false
/-! what is right -/
def Room (a : Int) : Prop := -2147483648 ≤ a ∧ a ≤ 2147483648
instance (a : Int) : Decidable (Room a) := by unfold Room; infer_instance
def Ety (a : Int) : Prop := -16777216 ≤ a ∧ a ≤ 16777216
instance (a : Int) : Decidable (Ety a) := by unfold Ety; infer_instance
def Pt.inn (p : Pt) : Prop := Room p.x ∧ Room p.y
instance (p : Pt) : Decidable p.inn := by unfold Pt.inn; infer_instance
def Mtx.right (m : Mtx) : Prop := (Ety m.a ∧ Ety m.b ∧ Ety m.c ∧ Ety m.d) ∧ Room m.e ∧ Room m.f
instance (m : Mtx) : Decidable m.right := by unfold Mtx.right; infer_instance
def Col.right (c : Col) : Prop := c.r.val ≤ c.a.val ∧ c.g.val ≤ c.a.val ∧ c.b.val ≤ c.a.val
instance (c : Col) : Decidable c.right := by unfold Col.right; infer_instance
def Pt.near (p : Pt) : Prop := (-16777216 ≤ p.x ∧ -16777216 ≤ p.y) ∧ p.x ≤ 16777216 ∧ p.y ≤ 16777216
instance (p : Pt) : Decidable p.near := by unfold Pt.near; infer_instance
/-- A stop is right, behind the one ahead of it. -/
def Stp.fits (before : Option Stp) (s : Stp) : Prop := 0 ≤ s.pos ∧ s.pos ≤ 65536 ∧ s.col.right ∧ ∀ q, before = some q → q.pos ≤ s.pos
instance (b : Option Stp) (s : Stp) : Decidable (s.fits b) := by
  unfold Stp.fits
  cases b with
  | none => exact decidable_of_iff (0 ≤ s.pos ∧ s.pos ≤ 65536 ∧ s.col.right) ⟨fun h => ⟨h.1, h.2.1, h.2.2, fun _ e => by cases e⟩, fun h => ⟨h.1, h.2.1, h.2.2.1⟩⟩
  | some q => exact decidable_of_iff (0 ≤ s.pos ∧ s.pos ≤ 65536 ∧ s.col.right ∧ q.pos ≤ s.pos) ⟨fun h => ⟨h.1, h.2.1, h.2.2.1, fun _ e => by cases e; exact h.2.2.2⟩, fun h => ⟨h.1, h.2.1, h.2.2.1, h.2.2.2 _ rfl⟩⟩
def stopsGo : Bool → Option Stp → List Stp → Bool
  | ok, _, [] => ok
  | ok, b, s :: r => stopsGo (ok && decide (s.fits b)) (some s) r
def stopsCheck (l : List Stp) : Int := if stopsGo (decide (1 ≤ l.length ∧ l.length ≤ 16)) none l then 0 else 30
def Pnt.shaded (p : Pnt) : Prop := p.kind = 2 ∨ p.kind = 3
instance (p : Pnt) : Decidable p.shaded := by unfold Pnt.shaded; infer_instance
def Pnt.check (p : Pnt) : Int :=
  if p.kind < 0 ∨ 3 < p.kind then 33
  else if ¬ p.col.right ∨ (p.kind ≠ 1 ∧ p.col ≠ Col.z) then 30
  else if ¬ p.shaded ∧ (p.frm ≠ Pt.z ∨ p.to ≠ Pt.z ∨ 0 < p.stops.length) then 30
  else if p.shaded ∧ (¬ p.frm.near ∨ ¬ p.to.near ∨ p.frm = p.to) then 30
  else if p.shaded then stopsCheck p.stops else 0
def dashPart (n : Int) : Prop := 1 ≤ n ∧ n ≤ 1048576
instance (n : Int) : Decidable (dashPart n) := by unfold dashPart; infer_instance
def isum : List Int → Int | [] => 0 | x :: l => x + isum l
def dashCheck (l : List Int) (phase : Int) : Int :=
  if l.length = 0 ∧ phase = 0 then 0
  else if l.length = 0 ∨ 8 < l.length ∨ l.length % 2 ≠ 0 then 30
  else if ¬ ∀ n ∈ l, dashPart n then 30
  else if phase < 0 ∨ isum l ≤ phase then 30 else 0
def Sty.nums (s : Sty) : Prop := (1 ≤ s.rule ∧ s.rule ≤ 2) ∧ (0 ≤ s.half ∧ s.half ≤ 32768) ∧ (0 ≤ s.cap ∧ s.cap ≤ 2) ∧ (0 ≤ s.opac ∧ s.opac ≤ 255) ∧ (0 ≤ s.mode ∧ s.mode ≤ 4)
instance (s : Sty) : Decidable s.nums := by unfold Sty.nums; infer_instance
def Sty.check (s : Sty) : Int :=
  if s.fill.check ≠ 0 then s.fill.check else if s.pen.check ≠ 0 then s.pen.check else if ¬ s.nums then 30 else dashCheck s.dash s.phase
def need (k : Int) : Nat := if k = 1 ∨ k = 2 then 1 else if k = 3 then 2 else if k = 4 then 3 else 0
/-- What is wrong with a segment; is a subpath open? -/
def Sg.check (open_ : Bool) (s : Sg) : Int :=
  if s.kind < 1 ∨ 5 < s.kind ∨ (open_ = false ∧ s.kind ≠ 1) then 33
  else if (need s.kind ≤ 0 ∧ s.p0 ≠ Pt.z) ∨ (need s.kind ≤ 1 ∧ s.p1 ≠ Pt.z) ∨ (need s.kind ≤ 2 ∧ s.p2 ≠ Pt.z) then 33
  else if (0 < need s.kind ∧ ¬ s.p0.inn) ∨ (1 < need s.kind ∧ ¬ s.p1.inn) ∨ (2 < need s.kind ∧ ¬ s.p2.inn) then 30 else 0
def pathGo : Bool → List Sg → Int
  | _, [] => 0
  | o, s :: r => if s.check o ≠ 0 then s.check o else pathGo (decide (s.kind ≠ 5)) r
def pathCheck (l : List Sg) : Int := if 4096 < l.length then 36 else pathGo false l
def Atr.check (a : Atr) (g : Bool) : Int :=
  if ¬ a.mtx.right then 10 else if a.sty.check ≠ 0 then a.sty.check else if pathCheck a.path ≠ 0 then pathCheck a.path else if g = true ∧ 0 < a.path.length then 33 else 0
/-! entries -/
def spanGo (n : Int) : Int → Int → List Ent → Int
  | _, _, [] => -1
  | o, i, x :: r => if x.kids < 0 ∨ n < x.kids then -1 else if o + x.kids - 1 = 0 then i + 1 else spanGo n (o + x.kids - 1) (i + 1) r
/-- How many entries the first node has; -1: they are no node's. -/
def span (l : List Ent) : Int := spanGo l.length 1 0 l
def Whole (l : List Ent) : Prop := 0 < l.length ∧ span l = l.length
instance (l : List Ent) : Decidable (Whole l) := by unfold Whole; infer_instance
mutual
/-- The node at the beginning of entries, and those behind it. -/
def tk : Nat → List Ent → Option (Nd × List Ent)
  | 0, _ => none
  | _ + 1, [] => none
  | f + 1, x :: r => if x.kids < 0 ∨ (r.length : Int) + 1 < x.kids then none else match tks f x.kids.toNat r with
    | none => none
    | some (ks, rest) => some (.mk x.id x.grp ks, rest)
def tks : Nat → Nat → List Ent → Option (List Nd × List Ent)
  | 0, 0, l => some ([], l)
  | 0, _ + 1, _ => none
  | _ + 1, 0, l => some ([], l)
  | f + 1, k + 1, l => match tk f l with
    | none => none
    | some (n, r) => match tks f k r with
      | none => none
      | some (ns, r') => some (n :: ns, r')
end
mutual
/-- The entries of a node. -/
def ents (at_ : Int → Atr) : Nd → List Ent
  | .mk i g ks => ⟨i, g, ks.length, at_ i⟩ :: entss at_ ks
def entss (at_ : Int → Atr) : List Nd → List Ent
  | [] => []
  | k :: ks => ents at_ k ++ entss at_ ks
end
end Go.Dc

/-
  Drawings, in plain Lean: the commands.
-/

namespace Go.Dc
open Go.Sl Go.Ls Go.Tr
set_option linter.unusedVariables false
set_option linter.unusedSimpArgs false
/-! paths -/
def checked (l : List Sg) : List Sg × Int := if pathCheck l ≠ 0 then ([], pathCheck l) else (l, 0)
def atSeg (l : List Sg) (i : Int) : Int := if pathCheck l ≠ 0 then pathCheck l else if i < 0 ∨ (l.length : Int) ≤ i then 30 else 0
def Sg.point (s : Sg) (k : Nat) : Pt := if k = 0 then s.p0 else if k = 1 then s.p1 else s.p2
def Sg.setPoint (s : Sg) (k : Nat) (p : Pt) : Sg := if k = 0 then { s with p0 := p } else if k = 1 then { s with p1 := p } else { s with p2 := p }
def sgAt (l : List Sg) (i : Int) : Sg := l.getD i.toNat Sg.z
def pathPut (l : List Sg) (i k : Int) (p : Pt) : List Sg × Int :=
  if atSeg l i ≠ 0 then ([], atSeg l i) else if k < 0 ∨ (need (sgAt l i).kind : Int) ≤ k then ([], 30)
  else checked (l.set i.toNat ((sgAt l i).setPoint k.toNat p))
def pathInsert (l : List Sg) (i : Int) (s : Sg) : List Sg × Int :=
  if pathCheck l ≠ 0 then ([], pathCheck l) else if i < 0 ∨ (l.length : Int) < i then ([], 30) else checked (l.take i.toNat ++ s :: l.drop i.toNat)
def pathDelete (l : List Sg) (i : Int) : List Sg × Int :=
  if atSeg l i ≠ 0 then ([], atSeg l i) else checked (l.take i.toNat ++ l.drop (i.toNat + 1))
def mid (p q : Pt) : Pt := ⟨(p.x + q.x) / 2, (p.y + q.y) / 2⟩
/-- A segment parted, from the point where it begins. -/
def Sg.parts (f : Pt) (s : Sg) : Sg × Sg :=
  if s.kind = 2 then ({ s with p0 := mid f s.p0 }, s)
  else if s.kind = 3 then ({ s with p0 := mid f s.p0, p1 := mid (mid f s.p0) (mid s.p0 s.p1) }, { s with p0 := mid s.p0 s.p1, p1 := s.p1 })
  else ({ s with p0 := mid f s.p0, p1 := mid (mid f s.p0) (mid s.p0 s.p1), p2 := mid (mid (mid f s.p0) (mid s.p0 s.p1)) (mid (mid s.p0 s.p1) (mid s.p1 s.p2)) }, { s with p0 := mid (mid s.p0 s.p1) (mid s.p1 s.p2), p1 := mid s.p1 s.p2, p2 := s.p2 })
def pathSplit (l : List Sg) (i : Int) : List Sg × Int :=
  if atSeg l i ≠ 0 then ([], atSeg l i) else if (sgAt l i).kind = 1 ∨ (sgAt l i).kind = 5 then ([], 33) else if l.length = 4096 then ([], 36)
  else
    let q := (sgAt l i).parts ((sgAt l (i - 1)).point (need (sgAt l (i - 1)).kind - 1))
    (l.take i.toNat ++ q.1 :: q.2 :: l.drop (i.toNat + 1), 0)
/-! a drawing -/
structure Dr where
  top : Nd
  at_ : Int → Option Atr
  segs : Int
def Dr.get (d : Dr) (i : Int) : Atr := (d.at_ i).getD Atr.z
def upAt (f : Int → Option Atr) (i : Int) (a : Atr) : Int → Option Atr := fun k => if k = i then some a else f k
def downAt (f : Int → Option Atr) (i : Int) : Int → Option Atr := fun k => if k = i then none else f k
def Dr.new : Dr := ⟨.mk 0 true [], fun _ => none, 0⟩
/-- All of it. -/
def Dr.entries (d : Dr) : List Ent := (ents d.get d.top).tail
def segsOf (l : List Ent) : Int := isum (l.map fun x => (x.atr.path.length : Int))
def firstWrong : List Ent → Int
  | [] => 0
  | x :: r => if x.atr.check x.grp ≠ 0 then x.atr.check x.grp else firstWrong r
def putAll (f : Int → Option Atr) : List Ent → Int → Option Atr
  | [] => f
  | x :: r => putAll (upAt f x.id x.atr) r
def dropAll (f : Int → Option Atr) : List Ent → Int → Option Atr
  | [] => f
  | x :: r => dropAll (downAt f x.id) r
def mostSegs : Int := 1048576
/-- The node that entries are. -/
def nodeOf (l : List Ent) : Nd := ((tk (2 * l.length) l).map Prod.fst).getD Nd.zero
def Dr.add (d : Dr) (c : Cm) : Dr × Cm × Int :=
  if ¬ Whole c.ents then (d, Cm.z, 20)
  else if firstWrong c.ents ≠ 0 then (d, Cm.z, firstWrong c.ents)
  else if mostSegs - d.segs < segsOf c.ents then (d, Cm.z, if (Nd.add d.top c.parent c.index (nodeOf c.ents)).2 ≠ 0 then (Nd.add d.top c.parent c.index (nodeOf c.ents)).2 else 36)
  else if (Nd.add d.top c.parent c.index (nodeOf c.ents)).2 ≠ 0 then (d, Cm.z, (Nd.add d.top c.parent c.index (nodeOf c.ents)).2)
  else (⟨(Nd.add d.top c.parent c.index (nodeOf c.ents)).1, putAll d.at_ c.ents, d.segs + segsOf c.ents⟩, { Cm.z with kind := 2, id := (nodeOf c.ents).id }, 0)
def Dr.remove (d : Dr) (c : Cm) : Dr × Cm × Int :=
  let q := Nd.remove d.top c.id
  if q.2.2.2.2 ≠ 0 then (d, Cm.z, q.2.2.2.2)
  else
    let l := ents d.get q.2.1
    (⟨q.1, dropAll d.at_ l, d.segs - segsOf l⟩, { Cm.z with kind := 1, parent := q.2.2.1, index := q.2.2.2.1, ents := l }, 0)
def Dr.move (d : Dr) (c : Cm) : Dr × Cm × Int :=
  let w := (Nd.whr c.id d.top).getD (0, 0)
  let q := Nd.move d.top c.id c.parent c.index
  if q.2 ≠ 0 then (d, Cm.z, q.2) else ({ d with top := q.1 }, { Cm.z with kind := 3, id := c.id, parent := w.1, index := w.2 }, 0)
def Dr.wrap (d : Dr) (c : Cm) : Dr × Cm × Int :=
  if c.atr.check true ≠ 0 then (d, Cm.z, c.atr.check true)
  else
    let q := Nd.wrap d.top c.id c.parent c.index c.count
    if q.2 ≠ 0 then (d, Cm.z, q.2) else (⟨q.1, upAt d.at_ c.id c.atr, d.segs⟩, { Cm.z with kind := 5, id := c.id }, 0)
def Dr.unwrap (d : Dr) (c : Cm) : Dr × Cm × Int :=
  let q := Nd.unwrap d.top c.id
  if q.2.2.2.2 ≠ 0 then (d, Cm.z, q.2.2.2.2)
  else (⟨q.1, downAt d.at_ c.id, d.segs⟩, { Cm.z with kind := 4, id := c.id, parent := q.2.1, index := q.2.2.1, count := q.2.2.2.1, atr := d.get c.id }, 0)
/-- Attributes behind a command, and what takes it back. -/
def change (a : Atr) (c : Cm) : Atr × Cm × Int :=
  if c.kind = 6 then ({ a with mtx := c.atr.mtx }, { Cm.z with kind := 6, atr := { Atr.z with mtx := a.mtx } }, if c.atr.mtx.right then 0 else 10)
  else if c.kind = 7 then ({ a with sty := c.atr.sty }, { Cm.z with kind := 7, atr := { Atr.z with sty := a.sty } }, c.atr.sty.check)
  else if c.kind = 8 then ({ a with path := c.atr.path }, { Cm.z with kind := 8, atr := { Atr.z with path := a.path } }, pathCheck c.atr.path)
  else if c.kind = 9 then ({ a with path := (pathInsert a.path c.i c.seg).1 }, { Cm.z with kind := 10, i := c.i }, (pathInsert a.path c.i c.seg).2)
  else if c.kind = 10 then ({ a with path := (pathDelete a.path c.i).1 }, { Cm.z with kind := 9, i := c.i, seg := if (pathDelete a.path c.i).2 = 0 then sgAt a.path c.i else Sg.z }, (pathDelete a.path c.i).2)
  else if c.kind = 11 then ({ a with path := (pathPut a.path c.i c.k c.point).1 }, { Cm.z with kind := 11, i := c.i, k := c.k, point := if (pathPut a.path c.i c.k c.point).2 = 0 then (sgAt a.path c.i).point c.k.toNat else Pt.z }, (pathPut a.path c.i c.k c.point).2)
  else ({ a with path := (pathSplit a.path c.i).1 }, { Cm.z with kind := 8, atr := { Atr.z with path := a.path } }, (pathSplit a.path c.i).2)
def Dr.set (d : Dr) (c : Cm) : Dr × Cm × Int :=
  if c.id = 0 then (d, Cm.z, 30)
  else match d.at_ c.id with
    | none => (d, Cm.z, 31)
    | some a =>
      if 8 ≤ c.kind ∧ ((Nd.find c.id d.top).map Nd.grp).getD false = true then (d, Cm.z, 33)
      else if (change a c).2.2 ≠ 0 then (d, Cm.z, (change a c).2.2)
      else if mostSegs < d.segs + (change a c).1.path.length - a.path.length then (d, Cm.z, 36)
      else (⟨d.top, upAt d.at_ c.id (change a c).1, d.segs + (change a c).1.path.length - a.path.length⟩, { (change a c).2.1 with id := c.id }, 0)
def Dr.apply (d : Dr) (c : Cm) : Dr × Cm × Int :=
  if c.kind = 1 then d.add c else if c.kind = 2 then d.remove c else if c.kind = 3 then d.move c else if c.kind = 4 then d.wrap c else if c.kind = 5 then d.unwrap c
  else if 6 ≤ c.kind ∧ c.kind ≤ 12 then d.set c else (d, Cm.z, 33)
end Go.Dc

/-
  Drawings, the walks: how many points a segment needs.
-/

namespace Go.Proofs.YtggcpoleklcmkaaGreatDoor
open Go.Sl Go.Ls Go.Dc
set_option maxRecDepth 100000
set_option maxHeartbeats 4000000
set_option linter.unusedVariables false
set_option linter.unusedSimpArgs false
attribute [local irreducible] WC WL WX WK WA WAK Val Ctr RunRes ResIs Rd At sl box pt Exit.then Exit.inBlock bodyPost Code.wp wpList
def NeedAt (I : Mem) : Prop := At I 0 0 [vi 0, vi 1, vi 1, vi 2, vi 3, vi 0]
theorem NeedAt.mono {I I' : Mem} (h : NeedAt I) (hI : I.le I') : NeedAt I' := At.mono h hI
theorem need_ctr (k : Int) (I : Mem) (hN : NeedAt I) : Ctr Tryz.prog 56 [vi k] I [] (Still I fun v => v = vi (need k)) := by
  refine Ctr.intro Tryz.func56 rfl rfl rfl fun E F => ?_
  by_cases h1 : k < 1
  · skip
    refine WC.seq ?_
    refine WC.region ?_
    refine WL.val (Val.assignI rfl) rfl ?_
    refine WL.nil ?_
    refine WX.thenC ?_
    refine WC.seq ?_
    refine WC.seq ?_
    refine WC.region ?_
    refine WL.val (Val.moveI rfl) rfl ?_
    refine WL.val (Val.lss rfl rfl (decide_eq_true (by omega))) rfl ?_
    refine WL.val (Val.moveB rfl) rfl ?_
    refine WL.gF rfl rfl rfl rfl ?_
    refine WL.gF rfl rfl rfl rfl ?_
    refine WL.val (Val.pick rfl) rfl ?_
    refine WL.nil ?_
    refine WX.thenC ?_
    refine WC.condT rfl ?_
    refine WC.seq ?_
    refine WC.region ?_
    refine WL.val (Val.assignI rfl) rfl ?_
    refine WL.nil ?_
    refine WX.thenC ?_
    refine WC.ret ?_
    refine WX.thenRet ?_
    apply WX.doneP (ks := [])
    case hres => exact RunRes.r1 rfl (ResIs.tmpI rfl)
    case hI => first | exact Mem.le.refl _ | assumption
    refine ⟨rfl, rfl, ?_⟩
    unfold need
    rw [if_neg (by omega), if_neg (by omega), if_neg (by omega)]
    rfl
  by_cases h2 : k > 5
  · skip
    refine WC.seq ?_
    refine WC.region ?_
    refine WL.val (Val.assignI rfl) rfl ?_
    refine WL.nil ?_
    refine WX.thenC ?_
    refine WC.seq ?_
    refine WC.seq ?_
    refine WC.region ?_
    refine WL.val (Val.moveI rfl) rfl ?_
    refine WL.val (Val.lss rfl rfl (decide_eq_false (by omega))) rfl ?_
    refine WL.val (Val.moveB rfl) rfl ?_
    refine WL.gT rfl rfl ?_
    refine WL.val (Val.moveI rfl) rfl ?_
    refine WL.gT rfl rfl ?_
    refine WL.val (Val.gtr rfl rfl (decide_eq_true (by omega))) rfl ?_
    refine WL.val (Val.pick rfl) rfl ?_
    refine WL.nil ?_
    refine WX.thenC ?_
    refine WC.condT rfl ?_
    refine WC.seq ?_
    refine WC.region ?_
    refine WL.val (Val.assignI rfl) rfl ?_
    refine WL.nil ?_
    refine WX.thenC ?_
    refine WC.ret ?_
    refine WX.thenRet ?_
    apply WX.doneP (ks := [])
    case hres => exact RunRes.r1 rfl (ResIs.tmpI rfl)
    case hI => first | exact Mem.le.refl _ | assumption
    refine ⟨rfl, rfl, ?_⟩
    unfold need
    rw [if_neg (by omega), if_neg (by omega), if_neg (by omega)]
    rfl
  have hk : k = 1 ∨ k = 2 ∨ k = 3 ∨ k = 4 ∨ k = 5 := by omega
  have hN' : At I 0 0 [vi 0, vi 1, vi 1, vi 2, vi 3, vi 0] := hN
  rcases hk with rfl | rfl | rfl | rfl | rfl
  · skip
    refine WC.seq ?_
    refine WC.region ?_
    refine WL.val (Val.assignI rfl) rfl ?_
    refine WL.nil ?_
    refine WX.thenC ?_
    refine WC.seq ?_
    refine WC.seq ?_
    refine WC.region ?_
    refine WL.val (Val.moveI rfl) rfl ?_
    refine WL.val (Val.lss rfl rfl (decide_eq_false (by omega))) rfl ?_
    refine WL.val (Val.moveB rfl) rfl ?_
    refine WL.gT rfl rfl ?_
    refine WL.val (Val.moveI rfl) rfl ?_
    refine WL.gT rfl rfl ?_
    refine WL.val (Val.gtr rfl rfl (decide_eq_false (by omega))) rfl ?_
    refine WL.val (Val.pick rfl) rfl ?_
    refine WL.nil ?_
    refine WX.thenC ?_
    refine WC.condF rfl ?_
    refine WC.skip ?_
    refine WX.thenC ?_
    refine WC.seq ?_
    refine WC.region ?_
    refine WL.val (Val.moveI rfl) rfl ?_
    refine WL.val (Val.indexAddrA rfl rfl (by omega) (by omega)) rfl ?_
    refine WL.val (Val.loadS rfl (Rd.imm (At.one (by assumption) rfl))) rfl ?_
    refine WL.val (Val.assignI rfl) rfl ?_
    refine WL.nil ?_
    refine WX.thenC ?_
    refine WC.ret ?_
    apply WX.doneP (ks := [])
    case hres => exact RunRes.r1 rfl (ResIs.tmpI rfl)
    case hI => first | exact Mem.le.refl _ | assumption
    exact ⟨rfl, rfl, rfl⟩
  · skip
    refine WC.seq ?_
    refine WC.region ?_
    refine WL.val (Val.assignI rfl) rfl ?_
    refine WL.nil ?_
    refine WX.thenC ?_
    refine WC.seq ?_
    refine WC.seq ?_
    refine WC.region ?_
    refine WL.val (Val.moveI rfl) rfl ?_
    refine WL.val (Val.lss rfl rfl (decide_eq_false (by omega))) rfl ?_
    refine WL.val (Val.moveB rfl) rfl ?_
    refine WL.gT rfl rfl ?_
    refine WL.val (Val.moveI rfl) rfl ?_
    refine WL.gT rfl rfl ?_
    refine WL.val (Val.gtr rfl rfl (decide_eq_false (by omega))) rfl ?_
    refine WL.val (Val.pick rfl) rfl ?_
    refine WL.nil ?_
    refine WX.thenC ?_
    refine WC.condF rfl ?_
    refine WC.skip ?_
    refine WX.thenC ?_
    refine WC.seq ?_
    refine WC.region ?_
    refine WL.val (Val.moveI rfl) rfl ?_
    refine WL.val (Val.indexAddrA rfl rfl (by omega) (by omega)) rfl ?_
    refine WL.val (Val.loadS rfl (Rd.imm (At.one (by assumption) rfl))) rfl ?_
    refine WL.val (Val.assignI rfl) rfl ?_
    refine WL.nil ?_
    refine WX.thenC ?_
    refine WC.ret ?_
    apply WX.doneP (ks := [])
    case hres => exact RunRes.r1 rfl (ResIs.tmpI rfl)
    case hI => first | exact Mem.le.refl _ | assumption
    exact ⟨rfl, rfl, rfl⟩
  · skip
    refine WC.seq ?_
    refine WC.region ?_
    refine WL.val (Val.assignI rfl) rfl ?_
    refine WL.nil ?_
    refine WX.thenC ?_
    refine WC.seq ?_
    refine WC.seq ?_
    refine WC.region ?_
    refine WL.val (Val.moveI rfl) rfl ?_
    refine WL.val (Val.lss rfl rfl (decide_eq_false (by omega))) rfl ?_
    refine WL.val (Val.moveB rfl) rfl ?_
    refine WL.gT rfl rfl ?_
    refine WL.val (Val.moveI rfl) rfl ?_
    refine WL.gT rfl rfl ?_
    refine WL.val (Val.gtr rfl rfl (decide_eq_false (by omega))) rfl ?_
    refine WL.val (Val.pick rfl) rfl ?_
    refine WL.nil ?_
    refine WX.thenC ?_
    refine WC.condF rfl ?_
    refine WC.skip ?_
    refine WX.thenC ?_
    refine WC.seq ?_
    refine WC.region ?_
    refine WL.val (Val.moveI rfl) rfl ?_
    refine WL.val (Val.indexAddrA rfl rfl (by omega) (by omega)) rfl ?_
    refine WL.val (Val.loadS rfl (Rd.imm (At.one (by assumption) rfl))) rfl ?_
    refine WL.val (Val.assignI rfl) rfl ?_
    refine WL.nil ?_
    refine WX.thenC ?_
    refine WC.ret ?_
    apply WX.doneP (ks := [])
    case hres => exact RunRes.r1 rfl (ResIs.tmpI rfl)
    case hI => first | exact Mem.le.refl _ | assumption
    exact ⟨rfl, rfl, rfl⟩
  · skip
    refine WC.seq ?_
    refine WC.region ?_
    refine WL.val (Val.assignI rfl) rfl ?_
    refine WL.nil ?_
    refine WX.thenC ?_
    refine WC.seq ?_
    refine WC.seq ?_
    refine WC.region ?_
    refine WL.val (Val.moveI rfl) rfl ?_
    refine WL.val (Val.lss rfl rfl (decide_eq_false (by omega))) rfl ?_
    refine WL.val (Val.moveB rfl) rfl ?_
    refine WL.gT rfl rfl ?_
    refine WL.val (Val.moveI rfl) rfl ?_
    refine WL.gT rfl rfl ?_
    refine WL.val (Val.gtr rfl rfl (decide_eq_false (by omega))) rfl ?_
    refine WL.val (Val.pick rfl) rfl ?_
    refine WL.nil ?_
    refine WX.thenC ?_
    refine WC.condF rfl ?_
    refine WC.skip ?_
    refine WX.thenC ?_
    refine WC.seq ?_
    refine WC.region ?_
    refine WL.val (Val.moveI rfl) rfl ?_
    refine WL.val (Val.indexAddrA rfl rfl (by omega) (by omega)) rfl ?_
    refine WL.val (Val.loadS rfl (Rd.imm (At.one (by assumption) rfl))) rfl ?_
    refine WL.val (Val.assignI rfl) rfl ?_
    refine WL.nil ?_
    refine WX.thenC ?_
    refine WC.ret ?_
    apply WX.doneP (ks := [])
    case hres => exact RunRes.r1 rfl (ResIs.tmpI rfl)
    case hI => first | exact Mem.le.refl _ | assumption
    exact ⟨rfl, rfl, rfl⟩
  · skip
    refine WC.seq ?_
    refine WC.region ?_
    refine WL.val (Val.assignI rfl) rfl ?_
    refine WL.nil ?_
    refine WX.thenC ?_
    refine WC.seq ?_
    refine WC.seq ?_
    refine WC.region ?_
    refine WL.val (Val.moveI rfl) rfl ?_
    refine WL.val (Val.lss rfl rfl (decide_eq_false (by omega))) rfl ?_
    refine WL.val (Val.moveB rfl) rfl ?_
    refine WL.gT rfl rfl ?_
    refine WL.val (Val.moveI rfl) rfl ?_
    refine WL.gT rfl rfl ?_
    refine WL.val (Val.gtr rfl rfl (decide_eq_false (by omega))) rfl ?_
    refine WL.val (Val.pick rfl) rfl ?_
    refine WL.nil ?_
    refine WX.thenC ?_
    refine WC.condF rfl ?_
    refine WC.skip ?_
    refine WX.thenC ?_
    refine WC.seq ?_
    refine WC.region ?_
    refine WL.val (Val.moveI rfl) rfl ?_
    refine WL.val (Val.indexAddrA rfl rfl (by omega) (by omega)) rfl ?_
    refine WL.val (Val.loadS rfl (Rd.imm (At.one (by assumption) rfl))) rfl ?_
    refine WL.val (Val.assignI rfl) rfl ?_
    refine WL.nil ?_
    refine WX.thenC ?_
    refine WC.ret ?_
    apply WX.doneP (ks := [])
    case hres => exact RunRes.r1 rfl (ResIs.tmpI rfl)
    case hI => first | exact Mem.le.refl _ | assumption
    exact ⟨rfl, rfl, rfl⟩
end Go.Proofs.YtggcpoleklcmkaaGreatDoor

/-
  Drawings, the plain law: entries that are one node's.
-/

namespace Go.Dc
open Go.Sl Go.Ls Go.Tr
set_option linter.unusedVariables false
set_option linter.unusedSimpArgs false
/-- What is left is no longer than what was there. -/
theorem tk_le : ∀ (f : Nat), (∀ (l : List Ent) n r, tk f l = some (n, r) → r.length < l.length) ∧ ∀ (k : Nat) (l : List Ent) ns r, tks f k l = some (ns, r) → r.length ≤ l.length := by
  intro f
  induction f with
  | zero =>
    refine ⟨fun l n r h => ?_, fun k l ns r h => ?_⟩
    · rw [tk] at h; cases h
    · cases k with
      | zero => rw [tks] at h; cases h; exact Nat.le_refl _
      | succ k => rw [tks] at h; cases h
  | succ f ih =>
    refine ⟨fun l n r h => ?_, fun k l ns r h => ?_⟩
    · cases l with
      | nil => rw [tk] at h; cases h
      | cons x l =>
        rw [tk] at h
        split at h
        · cases h
        · split at h
          · cases h
          · rename_i ks rest he
            cases h
            have := ih.2 _ _ _ _ he
            simp only [List.length_cons]
            omega
    · cases k with
      | zero => rw [tks] at h; cases h; exact Nat.le_refl _
      | succ k =>
        rw [tks] at h
        split at h
        · cases h
        · rename_i n r1 he
          split at h
          · cases h
          · rename_i ns' r2 he2
            cases h
            have h1 := ih.1 _ _ _ he
            have h2 := ih.2 _ _ _ _ he2
            omega
/-- More fuel changes nothing, once there is enough. -/
theorem tk_fuel : ∀ (f : Nat), (∀ (l : List Ent), 2 * l.length ≤ f → tk (f + 1) l = tk f l) ∧ ∀ (k : Nat) (l : List Ent), 2 * l.length + 1 ≤ f → tks (f + 1) k l = tks f k l := by
  intro f
  induction f with
  | zero =>
    refine ⟨fun l h => ?_, fun k l h => by omega⟩
    cases l with
    | nil => rw [tk, tk]
    | cons x l => simp at h
  | succ f ih =>
    refine ⟨fun l h => ?_, fun k l h => ?_⟩
    · cases l with
      | nil => rw [tk, tk]
      | cons x l =>
        simp only [List.length_cons] at h
        rw [tk, tk, ih.2 _ _ (by omega)]
    · cases k with
      | zero => rw [tks, tks]
      | succ k =>
        rw [tks, tks, ih.1 l (by omega)]
        cases he : tk f l with
        | none => rfl
        | some q =>
          obtain ⟨n, r⟩ := q
          have := (tk_le f).1 _ _ _ he
          simp only
          rw [ih.2 k r (by omega)]
theorem tks_more (k : Nat) (l : List Ent) (f : Nat) (h : 2 * l.length + 1 ≤ f) : tks f k l = tks (2 * l.length + 1) k l := by
  obtain ⟨g, rfl⟩ : ∃ g, f = 2 * l.length + 1 + g := ⟨f - (2 * l.length + 1), by omega⟩
  induction g with
  | zero => rfl
  | succ g ih => rw [← Nat.add_assoc, (tk_fuel _).2 k l (by omega), ih (by omega)]
/-- The node at the beginning. -/
def Tk (l : List Ent) : Option (Nd × List Ent) := tk (2 * l.length) l
def Tks (k : Nat) (l : List Ent) : Option (List Nd × List Ent) := tks (2 * l.length + 1) k l
theorem Tk_nil : Tk [] = none := by rw [Tk]; rfl
theorem Tk_cons (x : Ent) (r : List Ent) : Tk (x :: r) = if x.kids < 0 ∨ (r.length : Int) + 1 < x.kids then none else match Tks x.kids.toNat r with
    | none => none
    | some (ks, rest) => some (.mk x.id x.grp ks, rest) := by
  rw [Tk, show 2 * (x :: r).length = (2 * r.length + 1) + 1 by simp only [List.length_cons]; omega, tk]
  rfl
theorem Tks_zero (l : List Ent) : Tks 0 l = some ([], l) := by rw [Tks, tks]
theorem Tks_succ (k : Nat) (l : List Ent) : Tks (k + 1) l = match Tk l with
    | none => none
    | some (n, r) => match Tks k r with
      | none => none
      | some (ns, r') => some (n :: ns, r') := by
  rw [Tks, tks, Tk]
  cases he : tk (2 * l.length) l with
  | none => rfl
  | some q =>
    obtain ⟨n, r⟩ := q
    have := (tk_le _).1 _ _ _ he
    simp only
    rw [tks_more k r (2 * l.length) (by omega)]
    rfl
theorem Tk_le {l : List Ent} {n : Nd} {r : List Ent} (h : Tk l = some (n, r)) : r.length < l.length := (tk_le _).1 _ _ _ h
theorem Tks_le {k : Nat} {l : List Ent} {ns : List Nd} {r : List Ent} (h : Tks k l = some (ns, r)) : r.length ≤ l.length := (tk_le _).2 _ _ _ _ h
/-- Nodes, and nodes behind them. -/
theorem Tks_add : ∀ (a b : Nat) (l : List Ent), Tks (a + b) l = match Tks a l with
    | none => none
    | some (ns, r) => match Tks b r with
      | none => none
      | some (ms, r') => some (ns ++ ms, r')
  | 0, b, l => by
    rw [Tks_zero, Nat.zero_add]
    simp only [List.nil_append]
    cases Tks b l with
    | none => rfl
    | some q => rfl
  | a + 1, b, l => by
    rw [show a + 1 + b = a + b + 1 by omega, Tks_succ, Tks_succ]
    cases Tk l with
    | none => rfl
    | some q =>
      obtain ⟨n, r⟩ := q
      simp only
      rw [Tks_add a b r]
      cases Tks a r with
      | none => rfl
      | some q =>
        obtain ⟨ns, r2⟩ := q
        simp only
        cases Tks b r2 with
        | none => rfl
        | some q => rfl
theorem spanGo_short (N : Int) : ∀ (l : List Ent) (o i : Int), (l.length : Int) < o → spanGo N o i l = -1
  | [], o, i, _ => rfl
  | x :: r, o, i, h => by
    simp only [List.length_cons] at h
    rw [spanGo]
    split
    · rfl
    · rename_i hk
      rw [if_neg (by omega), spanGo_short N r _ _ (by omega)]
/-- The count tells just what is taken. -/
theorem spanGo_eq (N : Int) : ∀ (l : List Ent) (k : Nat) (i : Int), (l.length : Int) ≤ N → spanGo N ((k : Int) + 1) i l = match Tks (k + 1) l with
    | none => -1
    | some (_, r) => i + ((l.length : Int) - r.length)
  | [], k, i, h => by rw [Tks_succ, Tk_nil]; rfl
  | x :: r, k, i, h => by
    simp only [List.length_cons] at h
    rw [Tks_succ, Tk_cons, spanGo]
    by_cases h1 : x.kids < 0 ∨ (r.length : Int) + 1 < x.kids
    · rw [if_pos h1]
      simp only
      split
      · rfl
      · rename_i hk
        rw [if_neg (by omega), spanGo_short N r _ _ (by omega)]
    · rw [if_neg h1, if_neg (by omega)]
      obtain ⟨m, hm⟩ : ∃ m : Nat, x.kids = m := ⟨x.kids.toNat, by omega⟩
      rw [hm, Int.toNat_natCast]
      have hadd := Tks_add m k r
      by_cases h0 : m + k = 0
      · obtain ⟨rfl, rfl⟩ : m = 0 ∧ k = 0 := by omega
        rw [if_pos (by omega)]
        rw [Tks_zero]
        simp only
        rw [Tks_zero]
        show i + 1 = i + (((r.length + 1 : Nat) : Int) - (r.length : Int))
        omega
      · rw [if_neg (by omega), show (k : Int) + 1 + (m : Int) - 1 = ((m + k - 1 : Nat) : Int) + 1 by omega, spanGo_eq N r (m + k - 1) (i + 1) (by omega), show m + k - 1 + 1 = m + k by omega, hadd]
        cases Tks m r with
        | none => rfl
        | some q =>
          obtain ⟨ns, r2⟩ := q
          simp only
          cases Tks k r2 with
          | none => rfl
          | some q =>
            simp only [List.length_cons]
            omega
theorem span_eq (l : List Ent) : span l = match Tk l with
    | none => -1
    | some (_, r) => (l.length : Int) - r.length := by
  have h := spanGo_eq l.length l 0 0 (Int.le_refl _)
  rw [span, show (1 : Int) = ((0 : Nat) : Int) + 1 by omega, h, Tks_succ]
  cases Tk l with
  | none => rfl
  | some q =>
    obtain ⟨n, r⟩ := q
    simp only
    rw [Tks_zero]
    show (0 : Int) + ((l.length : Int) - (r.length : Int)) = (l.length : Int) - (r.length : Int)
    omega
theorem Whole_iff (l : List Ent) : Whole l ↔ ∃ n, Tk l = some (n, []) := by
  rw [Whole, span_eq]
  constructor
  · rintro ⟨h1, h2⟩
    cases h : Tk l with
    | none => rw [h] at h2; simp only at h2; omega
    | some q =>
      obtain ⟨n, r⟩ := q
      rw [h] at h2
      simp only at h2
      have : r.length = 0 := by omega
      exact ⟨n, by rw [List.eq_nil_of_length_eq_zero this]⟩
  · rintro ⟨n, h⟩
    have := Tk_le h
    rw [h]
    exact ⟨by simpa using this, by simp⟩
end Go.Dc
