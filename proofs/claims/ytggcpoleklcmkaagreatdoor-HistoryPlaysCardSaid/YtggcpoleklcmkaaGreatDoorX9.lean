/-
 Drawings, in plain Lean: what is right, and what commands do.
-/
import Derived.Test.YtggcpoleklcmkaaGreatDoorX8
import Derived.Test.YtggcpoleklcmkaaGreatDoorX4
import Derived.Test.YtggcpoleklcmkaaGreatDoorX2
import Derived.Test.YtggcpoleklcmkaaGreatDoorX3
set_option linter.unusedVariables false
set_option linter.unusedSimpArgs false
set_option maxRecDepth 100000
set_option maxHeartbeats 8000000
namespace Go.Dc
open Go.Sl Go.Ls Go.Tr
/-! what is right -/
def Room (a : Int) : Prop := -2147483648 ≤ a ∧ a ≤ 2147483648
instance (a : Int) : Decidable (Room a) := by unfold Room; infer_instance
def Ety (a : Int) : Prop := -16777216 ≤ a ∧ a ≤ 16777216
instance (a : Int) : Decidable (Ety a) := by unfold Ety; infer_instance
def Pt.inn (p : Pt) : Prop := Room p.x ∧ Room p.y
instance (p : Pt) : Decidable p.inn := by unfold Pt.inn; infer_instance
def Mtx.right (m : Mtx) : Prop := (Ety m.a ∧ Ety m.b ∧ Ety m.c ∧ Ety m.d) ∧ Room m.e ∧ Room m.f
instance (m : Mtx) : Decidable m.right := by unfold Mtx.right; infer_instance
def Col.right (c : Col) : Prop := c.r.val ≤ c.a.val ∧ c.g.val ≤ c.a.val ∧ c.b.val ≤ c.a.val
instance (c : Col) : Decidable c.right := by unfold Col.right; infer_instance
def Pt.near (p : Pt) : Prop := (-16777216 ≤ p.x ∧ -16777216 ≤ p.y) ∧ p.x ≤ 16777216 ∧ p.y ≤ 16777216
instance (p : Pt) : Decidable p.near := by unfold Pt.near; infer_instance
def Stp.fits (before : Option Stp) (s : Stp) : Prop := 0 ≤ s.pos ∧ s.pos ≤ 65536 ∧ s.col.right ∧ ∀ q, before = some q → q.pos ≤ s.pos
instance (b : Option Stp) (s : Stp) : Decidable (s.fits b) := by
 unfold Stp.fits
 cases b with
 | none => exact decidable_of_iff (0 ≤ s.pos ∧ s.pos ≤ 65536 ∧ s.col.right) ⟨fun h => ⟨h.1, h.2.1, h.2.2, fun _ e => by cases e⟩, fun h => ⟨h.1, h.2.1, h.2.2.1⟩⟩
 | some q => exact decidable_of_iff (0 ≤ s.pos ∧ s.pos ≤ 65536 ∧ s.col.right ∧ q.pos ≤ s.pos) ⟨fun h => ⟨h.1, h.2.1, h.2.2.1, fun _ e => by cases e; exact h.2.2.2⟩, fun h => ⟨h.1, h.2.1, h.2.2.1, h.2.2.2 _ rfl⟩⟩
def stopsGo : Bool → Option Stp → List Stp → Bool
 | ok, _, [] => ok
 | ok, b, s :: r => stopsGo (ok && decide (s.fits b)) (some s) r
def stopsCheck (l : List Stp) : Int := if stopsGo (decide (1 ≤ l.length ∧ l.length ≤ 16)) none l then 0 else 30
def Pnt.shaded (p : Pnt) : Prop := p.kind = 2 ∨ p.kind = 3
instance (p : Pnt) : Decidable p.shaded := by unfold Pnt.shaded; infer_instance
def Pnt.check (p : Pnt) : Int :=
 if p.kind < 0 ∨ 3 < p.kind then 33
 else if ¬ p.col.right ∨ (p.kind ≠ 1 ∧ p.col ≠ Col.z) then 30
 else if ¬ p.shaded ∧ (p.frm ≠ Pt.z ∨ p.to ≠ Pt.z ∨ 0 < p.stops.length) then 30
 else if p.shaded ∧ (¬ p.frm.near ∨ ¬ p.to.near ∨ p.frm = p.to) then 30
 else if p.shaded then stopsCheck p.stops else 0
def dashPart (n : Int) : Prop := 1 ≤ n ∧ n ≤ 1048576
instance (n : Int) : Decidable (dashPart n) := by unfold dashPart; infer_instance
def isum : List Int → Int | [] => 0 | x :: l => x + isum l
def dashCheck (l : List Int) (phase : Int) : Int :=
 if l.length = 0 ∧ phase = 0 then 0
 else if l.length = 0 ∨ 8 < l.length ∨ l.length % 2 ≠ 0 then 30
 else if ¬ ∀ n ∈ l, dashPart n then 30
 else if phase < 0 ∨ isum l ≤ phase then 30 else 0
def Sty.nums (s : Sty) : Prop := (1 ≤ s.rule ∧ s.rule ≤ 2) ∧ (0 ≤ s.half ∧ s.half ≤ 32768) ∧ (0 ≤ s.cap ∧ s.cap ≤ 2) ∧ (0 ≤ s.opac ∧ s.opac ≤ 255) ∧ (0 ≤ s.mode ∧ s.mode ≤ 4)
instance (s : Sty) : Decidable s.nums := by unfold Sty.nums; infer_instance
def Sty.check (s : Sty) : Int :=
 if s.fill.check ≠ 0 then s.fill.check else if s.pen.check ≠ 0 then s.pen.check else if ¬ s.nums then 30 else dashCheck s.dash s.phase
def need (k : Int) : Nat := if k = 1 ∨ k = 2 then 1 else if k = 3 then 2 else if k = 4 then 3 else 0
def Sg.check (open_ : Bool) (s : Sg) : Int :=
 if s.kind < 1 ∨ 5 < s.kind ∨ (open_ = false ∧ s.kind ≠ 1) then 33
 else if (need s.kind ≤ 0 ∧ s.p0 ≠ Pt.z) ∨ (need s.kind ≤ 1 ∧ s.p1 ≠ Pt.z) ∨ (need s.kind ≤ 2 ∧ s.p2 ≠ Pt.z) then 33
 else if (0 < need s.kind ∧ ¬ s.p0.inn) ∨ (1 < need s.kind ∧ ¬ s.p1.inn) ∨ (2 < need s.kind ∧ ¬ s.p2.inn) then 30 else 0
def pathGo : Bool → List Sg → Int
 | _, [] => 0
 | o, s :: r => if s.check o ≠ 0 then s.check o else pathGo (decide (s.kind ≠ 5)) r
def pathCheck (l : List Sg) : Int := if 4096 < l.length then 36 else pathGo false l
def Atr.check (a : Atr) (g : Bool) : Int :=
 if ¬ a.mtx.right then 10 else if a.sty.check ≠ 0 then a.sty.check else if pathCheck a.path ≠ 0 then pathCheck a.path else if g = true ∧ 0 < a.path.length then 33 else 0
/-! entries -/
def spanGo (n : Int) : Int → Int → List Ent → Int
 | _, _, [] => -1
 | o, i, x :: r => if x.kids < 0 ∨ n < x.kids then -1 else if o + x.kids - 1 = 0 then i + 1 else spanGo n (o + x.kids - 1) (i + 1) r
def span (l : List Ent) : Int := spanGo l.length 1 0 l
def Whole (l : List Ent) : Prop := 0 < l.length ∧ span l = l.length
instance (l : List Ent) : Decidable (Whole l) := by unfold Whole; infer_instance
mutual
def tk : Nat → List Ent → Option (Nd × List Ent)
 | 0, _ => none
 | _ + 1, [] => none
 | f + 1, x :: r => if x.kids < 0 ∨ (r.length : Int) + 1 < x.kids then none else match tks f x.kids.toNat r with
  | none => none
  | some (ks, rest) => some (.mk x.id x.grp ks, rest)
def tks : Nat → Nat → List Ent → Option (List Nd × List Ent)
 | 0, 0, l => some ([], l)
 | 0, _ + 1, _ => none
 | _ + 1, 0, l => some ([], l)
 | f + 1, k + 1, l => match tk f l with
  | none => none
  | some (n, r) => match tks f k r with
   | none => none
   | some (ns, r') => some (n :: ns, r')
end
mutual
def ents (at_ : Int → Atr) : Nd → List Ent
 | .mk i g ks => ⟨i, g, ks.length, at_ i⟩ :: entss at_ ks
def entss (at_ : Int → Atr) : List Nd → List Ent
 | [] => []
 | k :: ks => ents at_ k ++ entss at_ ks
end
end Go.Dc

namespace Go.Dc
open Go.Sl Go.Ls Go.Tr
/-! paths -/
def checked (l : List Sg) : List Sg × Int := if pathCheck l ≠ 0 then ([], pathCheck l) else (l, 0)
def atSeg (l : List Sg) (i : Int) : Int := if pathCheck l ≠ 0 then pathCheck l else if i < 0 ∨ (l.length : Int) ≤ i then 30 else 0
def Sg.point (s : Sg) (k : Nat) : Pt := if k = 0 then s.p0 else if k = 1 then s.p1 else s.p2
def Sg.setPoint (s : Sg) (k : Nat) (p : Pt) : Sg := if k = 0 then { s with p0 := p } else if k = 1 then { s with p1 := p } else { s with p2 := p }
def sgAt (l : List Sg) (i : Int) : Sg := l.getD i.toNat Sg.z
def pathPut (l : List Sg) (i k : Int) (p : Pt) : List Sg × Int :=
 if atSeg l i ≠ 0 then ([], atSeg l i) else if k < 0 ∨ (need (sgAt l i).kind : Int) ≤ k then ([], 30)
 else checked (l.set i.toNat ((sgAt l i).setPoint k.toNat p))
def pathInsert (l : List Sg) (i : Int) (s : Sg) : List Sg × Int :=
 if pathCheck l ≠ 0 then ([], pathCheck l) else if i < 0 ∨ (l.length : Int) < i then ([], 30) else checked (l.take i.toNat ++ s :: l.drop i.toNat)
def pathDelete (l : List Sg) (i : Int) : List Sg × Int :=
 if atSeg l i ≠ 0 then ([], atSeg l i) else checked (l.take i.toNat ++ l.drop (i.toNat + 1))
def mid (p q : Pt) : Pt := ⟨(p.x + q.x) / 2, (p.y + q.y) / 2⟩
def Sg.parts (f : Pt) (s : Sg) : Sg × Sg :=
 if s.kind = 2 then ({ s with p0 := mid f s.p0 }, s)
 else if s.kind = 3 then ({ s with p0 := mid f s.p0, p1 := mid (mid f s.p0) (mid s.p0 s.p1) }, { s with p0 := mid s.p0 s.p1, p1 := s.p1 })
 else ({ s with p0 := mid f s.p0, p1 := mid (mid f s.p0) (mid s.p0 s.p1), p2 := mid (mid (mid f s.p0) (mid s.p0 s.p1)) (mid (mid s.p0 s.p1) (mid s.p1 s.p2)) }, { s with p0 := mid (mid s.p0 s.p1) (mid s.p1 s.p2), p1 := mid s.p1 s.p2, p2 := s.p2 })
def pathSplit (l : List Sg) (i : Int) : List Sg × Int :=
 if atSeg l i ≠ 0 then ([], atSeg l i) else if (sgAt l i).kind = 1 ∨ (sgAt l i).kind = 5 then ([], 33) else if l.length = 4096 then ([], 36)
 else
  let q := (sgAt l i).parts ((sgAt l (i - 1)).point (need (sgAt l (i - 1)).kind - 1))
  (l.take i.toNat ++ q.1 :: q.2 :: l.drop (i.toNat + 1), 0)
/-! a drawing -/
structure Dr where
 top : Nd
 at_ : Int → Option Atr
 segs : Int
def Dr.get (d : Dr) (i : Int) : Atr := (d.at_ i).getD Atr.z
def upAt (f : Int → Option Atr) (i : Int) (a : Atr) : Int → Option Atr := fun k => if k = i then some a else f k
def downAt (f : Int → Option Atr) (i : Int) : Int → Option Atr := fun k => if k = i then none else f k
def Dr.new : Dr := ⟨.mk 0 true [], fun _ => none, 0⟩
def Dr.entries (d : Dr) : List Ent := (ents d.get d.top).tail
def segsOf (l : List Ent) : Int := isum (l.map fun x => (x.atr.path.length : Int))
def firstWrong : List Ent → Int
 | [] => 0
 | x :: r => if x.atr.check x.grp ≠ 0 then x.atr.check x.grp else firstWrong r
def putAll (f : Int → Option Atr) : List Ent → Int → Option Atr
 | [] => f
 | x :: r => putAll (upAt f x.id x.atr) r
def dropAll (f : Int → Option Atr) : List Ent → Int → Option Atr
 | [] => f
 | x :: r => dropAll (downAt f x.id) r
def mostSegs : Int := 1048576
def nodeOf (l : List Ent) : Nd := ((tk (2 * l.length) l).map Prod.fst).getD Nd.zero
def Dr.add (d : Dr) (c : Cm) : Dr × Cm × Int :=
 if ¬ Whole c.ents then (d, Cm.z, 20)
 else if firstWrong c.ents ≠ 0 then (d, Cm.z, firstWrong c.ents)
 else if mostSegs - d.segs < segsOf c.ents then (d, Cm.z, if (Nd.add d.top c.parent c.index (nodeOf c.ents)).2 ≠ 0 then (Nd.add d.top c.parent c.index (nodeOf c.ents)).2 else 36)
 else if (Nd.add d.top c.parent c.index (nodeOf c.ents)).2 ≠ 0 then (d, Cm.z, (Nd.add d.top c.parent c.index (nodeOf c.ents)).2)
 else (⟨(Nd.add d.top c.parent c.index (nodeOf c.ents)).1, putAll d.at_ c.ents, d.segs + segsOf c.ents⟩, { Cm.z with kind := 2, id := (nodeOf c.ents).id }, 0)
def Dr.remove (d : Dr) (c : Cm) : Dr × Cm × Int :=
 let q := Nd.remove d.top c.id
 if q.2.2.2.2 ≠ 0 then (d, Cm.z, q.2.2.2.2)
 else
  let l := ents d.get q.2.1
  (⟨q.1, dropAll d.at_ l, d.segs - segsOf l⟩, { Cm.z with kind := 1, parent := q.2.2.1, index := q.2.2.2.1, ents := l }, 0)
def Dr.move (d : Dr) (c : Cm) : Dr × Cm × Int :=
 let w := (Nd.whr c.id d.top).getD (0, 0)
 let q := Nd.move d.top c.id c.parent c.index
 if q.2 ≠ 0 then (d, Cm.z, q.2) else ({ d with top := q.1 }, { Cm.z with kind := 3, id := c.id, parent := w.1, index := w.2 }, 0)
def Dr.wrap (d : Dr) (c : Cm) : Dr × Cm × Int :=
 if c.atr.check true ≠ 0 then (d, Cm.z, c.atr.check true)
 else
  let q := Nd.wrap d.top c.id c.parent c.index c.count
  if q.2 ≠ 0 then (d, Cm.z, q.2) else (⟨q.1, upAt d.at_ c.id c.atr, d.segs⟩, { Cm.z with kind := 5, id := c.id }, 0)
def Dr.unwrap (d : Dr) (c : Cm) : Dr × Cm × Int :=
 let q := Nd.unwrap d.top c.id
 if q.2.2.2.2 ≠ 0 then (d, Cm.z, q.2.2.2.2)
 else (⟨q.1, downAt d.at_ c.id, d.segs⟩, { Cm.z with kind := 4, id := c.id, parent := q.2.1, index := q.2.2.1, count := q.2.2.2.1, atr := d.get c.id }, 0)
def change (a : Atr) (c : Cm) : Atr × Cm × Int :=
 if c.kind = 6 then ({ a with mtx := c.atr.mtx }, { Cm.z with kind := 6, atr := { Atr.z with mtx := a.mtx } }, if c.atr.mtx.right then 0 else 10)
 else if c.kind = 7 then ({ a with sty := c.atr.sty }, { Cm.z with kind := 7, atr := { Atr.z with sty := a.sty } }, c.atr.sty.check)
 else if c.kind = 8 then ({ a with path := c.atr.path }, { Cm.z with kind := 8, atr := { Atr.z with path := a.path } }, pathCheck c.atr.path)
 else if c.kind = 9 then ({ a with path := (pathInsert a.path c.i c.seg).1 }, { Cm.z with kind := 10, i := c.i }, (pathInsert a.path c.i c.seg).2)
 else if c.kind = 10 then ({ a with path := (pathDelete a.path c.i).1 }, { Cm.z with kind := 9, i := c.i, seg := if (pathDelete a.path c.i).2 = 0 then sgAt a.path c.i else Sg.z }, (pathDelete a.path c.i).2)
 else if c.kind = 11 then ({ a with path := (pathPut a.path c.i c.k c.point).1 }, { Cm.z with kind := 11, i := c.i, k := c.k, point := if (pathPut a.path c.i c.k c.point).2 = 0 then (sgAt a.path c.i).point c.k.toNat else Pt.z }, (pathPut a.path c.i c.k c.point).2)
 else ({ a with path := (pathSplit a.path c.i).1 }, { Cm.z with kind := 8, atr := { Atr.z with path := a.path } }, (pathSplit a.path c.i).2)
def Dr.set (d : Dr) (c : Cm) : Dr × Cm × Int :=
 if c.id = 0 then (d, Cm.z, 30)
 else match d.at_ c.id with
  | none => (d, Cm.z, 31)
  | some a =>
   if 8 ≤ c.kind ∧ ((Nd.find c.id d.top).map Nd.grp).getD false = true then (d, Cm.z, 33)
   else if (change a c).2.2 ≠ 0 then (d, Cm.z, (change a c).2.2)
   else if mostSegs < d.segs + (change a c).1.path.length - a.path.length then (d, Cm.z, 36)
   else (⟨d.top, upAt d.at_ c.id (change a c).1, d.segs + (change a c).1.path.length - a.path.length⟩, { (change a c).2.1 with id := c.id }, 0)
def Dr.apply (d : Dr) (c : Cm) : Dr × Cm × Int :=
 if c.kind = 1 then d.add c else if c.kind = 2 then d.remove c else if c.kind = 3 then d.move c else if c.kind = 4 then d.wrap c else if c.kind = 5 then d.unwrap c
 else if 6 ≤ c.kind ∧ c.kind ≤ 12 then d.set c else (d, Cm.z, 33)
end Go.Dc

namespace Go.Proofs.YtggcpoleklcmkaaGreatDoor
open Go.Sl Go.Ls Go.Dc
attribute [local irreducible] WC WL WX WK WA WAK Val Ctr RunRes ResIs Rd At sl box pt Exit.then Exit.inBlock bodyPost Code.wp wpList
def NeedAt (I : Mem) : Prop := At I 0 0 [vi 0, vi 1, vi 1, vi 2, vi 3, vi 0]
theorem NeedAt.mono {I I' : Mem} (h : NeedAt I) (hI : I.le I') : NeedAt I' := At.mono h hI
theorem need_ctr (k : Int) (I : Mem) (hN : NeedAt I) : Ctr Tryz.prog 56 [vi k] I [] (Still I fun v => v = vi (need k)) := by
 refine Ctr.intro Tryz.func56 rfl rfl rfl fun E F => ?_
 by_cases h1 : k < 1
 ·skip
  refine jS (jf rfl (jM (jB (jS (ja rfl (jy rfl rfl (jb rfl (jH (jH (jk rfl (jM (jF (jS (jf rfl (jM (jR (jU ?_)))))))))))))))))
  refine jP [] (jr1 rfl (jtI rfl)) ?_
  refine ⟨rfl, rfl, ?_⟩
  unfold need
  rw [if_neg (by omega), if_neg (by omega), if_neg (by omega)]
  rfl
 by_cases h2 : k > 5
 ·skip
  refine jS (jf rfl (jM (jB (jS (ja rfl (jx rfl rfl (jb rfl (jG (ja rfl (jG (jO rfl rfl (jk rfl (jM (jF (jS (jf rfl (jM (jR (jU ?_)))))))))))))))))))
  refine jP [] (jr1 rfl (jtI rfl)) ?_
  refine ⟨rfl, rfl, ?_⟩
  unfold need
  rw [if_neg (by omega), if_neg (by omega), if_neg (by omega)]
  rfl
 have hk : k = 1 ∨ k = 2 ∨ k = 3 ∨ k = 4 ∨ k = 5 := by omega
 have hN' : At I 0 0 [vi 0, vi 1, vi 1, vi 2, vi 3, vi 0] := hN
 rcases hk with rfl | rfl | rfl | rfl | rfl
 ·skip
  refine jS (jf rfl (jM (jB (jS (ja rfl (jx rfl rfl (jb rfl (jG (ja rfl (jG (jL rfl rfl (jk rfl (jM (jE (jV (jK (ja rfl (jm (Val.indexAddrA rfl rfl (by omega) (by omega)) ?_))))))))))))))))))
  refine jm (Val.loadS rfl (Rd.imm (At.one (by assumption) rfl))) ?_
  refine jf rfl (jM (jR ?_))
  exact jP [] (jr1 rfl (jtI rfl)) ⟨rfl, rfl, rfl⟩
 ·skip
  refine jS (jf rfl (jM (jB (jS (ja rfl (jx rfl rfl (jb rfl (jG (ja rfl (jG (jL rfl rfl (jk rfl (jM (jE (jV (jK (ja rfl (jm (Val.indexAddrA rfl rfl (by omega) (by omega)) ?_))))))))))))))))))
  refine jm (Val.loadS rfl (Rd.imm (At.one (by assumption) rfl))) ?_
  refine jf rfl (jM (jR ?_))
  exact jP [] (jr1 rfl (jtI rfl)) ⟨rfl, rfl, rfl⟩
 ·skip
  refine jS (jf rfl (jM (jB (jS (ja rfl (jx rfl rfl (jb rfl (jG (ja rfl (jG (jL rfl rfl (jk rfl (jM (jE (jV (jK (ja rfl (jm (Val.indexAddrA rfl rfl (by omega) (by omega)) ?_))))))))))))))))))
  refine jm (Val.loadS rfl (Rd.imm (At.one (by assumption) rfl))) ?_
  refine jf rfl (jM (jR ?_))
  exact jP [] (jr1 rfl (jtI rfl)) ⟨rfl, rfl, rfl⟩
 ·skip
  refine jS (jf rfl (jM (jB (jS (ja rfl (jx rfl rfl (jb rfl (jG (ja rfl (jG (jL rfl rfl (jk rfl (jM (jE (jV (jK (ja rfl (jm (Val.indexAddrA rfl rfl (by omega) (by omega)) ?_))))))))))))))))))
  refine jm (Val.loadS rfl (Rd.imm (At.one (by assumption) rfl))) ?_
  refine jf rfl (jM (jR ?_))
  exact jP [] (jr1 rfl (jtI rfl)) ⟨rfl, rfl, rfl⟩
 ·skip
  refine jS (jf rfl (jM (jB (jS (ja rfl (jx rfl rfl (jb rfl (jG (ja rfl (jG (jL rfl rfl (jk rfl (jM (jE (jV (jK (ja rfl (jm (Val.indexAddrA rfl rfl (by omega) (by omega)) ?_))))))))))))))))))
  refine jm (Val.loadS rfl (Rd.imm (At.one (by assumption) rfl))) ?_
  refine jf rfl (jM (jR ?_))
  exact jP [] (jr1 rfl (jtI rfl)) ⟨rfl, rfl, rfl⟩
end Go.Proofs.YtggcpoleklcmkaaGreatDoor

namespace Go.Dc
open Go.Sl Go.Ls
theorem vi_inj {a b : Int} (h : vi a = vi b) : a = b := by injection h
theorem byt_inj {a b : Fin 256} (h : byt a = byt b) : a = b := by injection h with _ h; exact Fin.ext (by omega)
theorem Pt.inj {p q : Pt} (h : p.cs = q.cs) : p = q := by
 cases p; cases q
 simp only [Pt.cs, List.cons.injEq, Value.int.injEq, true_and, and_true] at h
 obtain ⟨rfl, rfl⟩ := h; rfl
theorem Col.inj {p q : Col} (h : p.cs = q.cs) : p = q := by
 cases p; cases q
 simp only [Col.cs, List.cons.injEq, and_true] at h
 obtain ⟨h1, h2, h3, h4⟩ := h
 rw [byt_inj h1, byt_inj h2, byt_inj h3, byt_inj h4]
theorem Stp.inj {p q : Stp} (h : p.cs = q.cs) : p = q := by
 cases p with | mk a c => cases q with | mk b d =>
 simp only [Stp.cs, List.cons.injEq, and_true] at h
 obtain ⟨h0, h1, h2, h3, h4⟩ := h
 rw [vi_inj h0, Col.inj (p := c) (q := d) (by simp only [Col.cs, h1, h2, h3, h4])]
theorem Sg.inj {p q : Sg} (h : p.cs = q.cs) : p = q := by
 obtain ⟨k, ⟨a, b⟩, ⟨c, d⟩, ⟨e, f⟩⟩ := p
 obtain ⟨k', ⟨a', b'⟩, ⟨c', d'⟩, ⟨e', f'⟩⟩ := q
 simp only [Sg.cs, List.cons.injEq, Value.int.injEq, true_and, and_true] at h
 obtain ⟨rfl, rfl, rfl, rfl, rfl, rfl, rfl⟩ := h; rfl
theorem Mtx.inj {p q : Mtx} (h : p.cs = q.cs) : p = q := by
 cases p; cases q
 simp only [Mtx.cs, List.cons.injEq, Value.int.injEq, true_and, and_true] at h
 obtain ⟨rfl, rfl, rfl, rfl, rfl, rfl⟩ := h; rfl
theorem Pnt.of {p q : Pnt} (h0 : p.kind = q.kind) (h1 : p.col = q.col) (h2 : p.frm = q.frm) (h3 : p.to = q.to) (h4 : p.stops = q.stops) : p = q := by
 cases p; cases q
 simp only at h0 h1 h2 h3 h4
 subst h0 h1 h2 h3 h4; rfl
theorem Sty.of {p q : Sty} (h0 : p.fill = q.fill) (h1 : p.pen = q.pen) (h2 : p.rule = q.rule) (h3 : p.half = q.half) (h4 : p.cap = q.cap) (h5 : p.dash = q.dash) (h6 : p.phase = q.phase) (h7 : p.opac = q.opac) (h8 : p.mode = q.mode) : p = q := by
 cases p; cases q
 simp only at h0 h1 h2 h3 h4 h5 h6 h7 h8
 subst h0 h1 h2 h3 h4 h5 h6 h7 h8; rfl
theorem Atr.of {p q : Atr} (h0 : p.mtx = q.mtx) (h1 : p.sty = q.sty) (h2 : p.path = q.path) : p = q := by
 cases p; cases q
 simp only at h0 h1 h2
 subst h0 h1 h2; rfl
theorem Ent.of {p q : Ent} (h0 : p.id = q.id) (h1 : p.grp = q.grp) (h2 : p.kids = q.kids) (h3 : p.atr = q.atr) : p = q := by
 cases p; cases q
 simp only at h0 h1 h2 h3
 subst h0 h1 h2 h3; rfl
end Go.Dc
namespace Go.Proofs.YtggcpoleklcmkaaGreatDoor
open Go.Sl Go.Ls Go.Dc
attribute [local irreducible] WC WL WX WK WA WAK Val Ctr RunRes ResIs Rd At sl box pt Exit.then Exit.inBlock bodyPost Code.wp wpList
theorem take_more {α : Type} {l m : List α} {k : Nat} (h : l.take k = m.take k) (h1 : k < l.length) (h2 : k < m.length) (he : l[k] = m[k]) : l.take (k + 1) = m.take (k + 1) := by
 rw [List.take_succ_eq_append_getElem h1, List.take_succ_eq_append_getElem h2, h, he]
theorem eqInt (l m : List Int) (v u : Value) (I : Mem) (hv : LsAt Int.rep I l v) (hu : LsAt Int.rep I m u) :
  Ctr Tryz.prog 99 [v, u] I [] (Still I (EqP (l = m))) := by
 have hlb : l.length ≤ 9223372036854775807 := by obtain ⟨_, h, _⟩ := hv; exact h.le
 obtain ⟨a1, c1, rfl⟩ := hv.sl
 obtain ⟨a2, c2, rfl⟩ := hu.sl
 refine Ctr.intro Tryz.func99 rfl rfl rfl fun E F => ?_
 by_cases hne : l.length = m.length
 ·skip
  refine jS (jg rfl (jM (jB (jS (jc rfl (jm (jo rfl) (jc rfl (jm (jo rfl) (jz rfl rfl (jM (jE (jV (jA (jB (jS (jc rfl (jm (jo rfl) (ja rfl (jM (WC.block ?_))))))))))))))))))))
  refine WC.loop (fun q ρ' I' L' => ∃ k : Nat, q = l.length - k ∧ k ≤ l.length ∧ I' = I ∧ ρ' 0 = .slice a1 l.length c1 ∧ ρ' 1 = .slice a2 m.length c2 ∧ ρ' 12 = vi l.length ∧ ρ' 13 = vi k ∧ L' = [F] ∧ l.take k = m.take k)
   l.length ⟨0, rfl, by omega, rfl, rfl, rfl, rfl, rfl, rfl, rfl⟩ ?_
  rintro q ρ' I0 L' ⟨k, rfl, hk, rfl, h0, h1, h12, h13, rfl, heq⟩
  refine ju4 h13 h12 h1 h0 ?_
  by_cases hkn : k < l.length
  ·have hkm : k < m.length := by omega
   obtain ⟨b, off, cap', cs, he, ⟨rfl, hi⟩, hA⟩ := hv.get k hkn
   cases he
   obtain ⟨b', off', cap'', cs', he', ⟨rfl, hi'⟩, hA'⟩ := hu.get k hkm
   cases he'
   have htk := take_more heq hkn hkm
   generalize hx : l[k] = x at *
   generalize hy : m[k] = y at *
   refine jS (jy rfl rfl (jM (jB (jF (jV (jA (jB (WC.block (jS (ja rfl (jf rfl (jM (jB ?_)))))))))))))
   by_cases hxy : x = y
   ·subst hxy
    refine j8 999 [] rfl (jT 0 rfl (Val.moveS rfl) (jT 1 rfl (Val.moveI rfl) (jT 2 rfl (jZ rfl rfl) (jT 3 rfl (Val.loadS rfl (Rd.imm (by assumption))) ?_))))
    refine jT 4 rfl (Val.moveS rfl) (jT 5 rfl (Val.moveI rfl) (jT 6 rfl (jZ rfl rfl) (jT 7 rfl (Val.loadS rfl (Rd.imm (by assumption))) ?_)))
    refine jT 8 rfl (Val.neq rfl rfl (bne_eq_false_iff_eq.2 (by omega))) ?_
    exact j6 (jA (jE (jV (WX.inNormal (jA (jD (jX rfl rfl (ja rfl (jC (WX.thenK (WK.round (l.length - (k + 1)) (by omega) ⟨k + 1, rfl, by omega, rfl, rfl, rfl, rfl, rfl, rfl, htk rfl⟩)))))))))))
   ·skip
    refine j8 999 [] rfl (jT 0 rfl (Val.moveS rfl) (jT 1 rfl (Val.moveI rfl) (jT 2 rfl (jZ rfl rfl) (jT 3 rfl (Val.loadS rfl (Rd.imm (by assumption))) ?_))))
    refine jT 4 rfl (Val.moveS rfl) (jT 5 rfl (Val.moveI rfl) (jT 6 rfl (jZ rfl rfl) (jT 7 rfl (Val.loadS rfl (Rd.imm (by assumption))) ?_)))
    refine jT 8 rfl (Val.neq rfl rfl (bne_iff_ne.2 (by omega))) ?_
    refine j6 (jA (jF (jS (jg rfl (jM (jR (WX.inRet (jU (jU (WX.inRet (jU ?_)))))))))))
    refine jP [] (jr1 rfl (jtB rfl)) ?_
    refine ⟨rfl, rfl, EqP.f fun e => ?_⟩
    subst e
    exact hxy (hx.symm.trans hy)
  ·skip
   refine jS (jx rfl rfl (jM (jB (jE (WC.exit (WX.thenExit (WX.thenExit (WX.inHit (jK (jg rfl (jM (jR ?_))))))))))))
   refine jP [] (jr1 rfl (jtB rfl)) ?_
   refine ⟨rfl, rfl, EqP.t ?_⟩
   have : k = l.length := by omega
   rw [this, List.take_length, hne, List.take_length] at heq
   exact heq
 ·skip
  refine jS (jg rfl (jM (jB (jS (jc rfl (jm (jo rfl) (jc rfl (jm (jo rfl) (jJ rfl rfl (jM (jF (jS (jg rfl (jM (jR (jU ?_))))))))))))))))
  exact jP [] (jr1 rfl (jtB rfl)) ⟨rfl, rfl, EqP.f fun h => hne (by rw [h])⟩
theorem eqStp (l m : List Stp) (v u : Value) (I : Mem) (hv : LsAt Stp.rep I l v) (hu : LsAt Stp.rep I m u) :
  Ctr Tryz.prog 126 [v, u] I [] (Still I (EqP (l = m))) := by
 have hlb : l.length ≤ 9223372036854775807 := by obtain ⟨_, h, _⟩ := hv; exact h.le
 obtain ⟨a1, c1, rfl⟩ := hv.sl
 obtain ⟨a2, c2, rfl⟩ := hu.sl
 refine Ctr.intro Tryz.func126 rfl rfl rfl fun E F => ?_
 by_cases hne : l.length = m.length
 ·skip
  refine jS (jg rfl (jM (jB (jS (jc rfl (jm (jo rfl) (jc rfl (jm (jo rfl) (jz rfl rfl (jM (jE (jV (jA (jB (jS (jc rfl (jm (jo rfl) (ja rfl (jM (WC.block ?_))))))))))))))))))))
  refine WC.loop (fun q ρ' I' L' => ∃ k : Nat, q = l.length - k ∧ k ≤ l.length ∧ I' = I ∧ ρ' 0 = .slice a1 l.length c1 ∧ ρ' 1 = .slice a2 m.length c2 ∧ ρ' 12 = vi l.length ∧ ρ' 13 = vi k ∧ L' = [F] ∧ l.take k = m.take k)
   l.length ⟨0, rfl, by omega, rfl, rfl, rfl, rfl, rfl, rfl, rfl⟩ ?_
  rintro q ρ' I0 L' ⟨k, rfl, hk, rfl, h0, h1, h12, h13, rfl, heq⟩
  refine ju4 h13 h12 h1 h0 ?_
  by_cases hkn : k < l.length
  ·have hkm : k < m.length := by omega
   obtain ⟨b, off, cap', cs, he, ⟨rfl, hi⟩, hA⟩ := hv.get k hkn
   cases he
   obtain ⟨b', off', cap'', cs', he', ⟨rfl, hi'⟩, hA'⟩ := hu.get k hkm
   cases he'
   have htk := take_more heq hkn hkm
   generalize hx : l[k] = x at *
   generalize hy : m[k] = y at *
   refine jS (jy rfl rfl (jM (jB (jF (jV (jA (jB (WC.block (jS (ja rfl (jf rfl (jM (jB ?_)))))))))))))
   by_cases hxy : x = y
   ·subst hxy
    refine j8 999 [] rfl (jT 0 rfl (Val.moveS rfl) (jT 1 rfl (Val.moveI rfl) (jT 2 rfl (jZ rfl rfl) (jT 3 rfl (Val.loadI rfl (by assumption) rfl) ?_))))
    refine jT 4 rfl (Val.moveS rfl) (jT 5 rfl (Val.moveI rfl) (jT 6 rfl (jZ rfl rfl) (jT 7 rfl (Val.loadI rfl (by assumption) rfl) ?_)))
    refine jT 8 rfl (Val.neqSame rfl rfl rfl) ?_
    exact j6 (jA (jE (jV (WX.inNormal (jA (jD (jX rfl rfl (ja rfl (jC (WX.thenK (WK.round (l.length - (k + 1)) (by omega) ⟨k + 1, rfl, by omega, rfl, rfl, rfl, rfl, rfl, rfl, htk rfl⟩)))))))))))
   ·have hcs : x.cs ≠ y.cs := fun e => hxy (Stp.inj e)
    refine j8 999 [] rfl (jT 0 rfl (Val.moveS rfl) (jT 1 rfl (Val.moveI rfl) (jT 2 rfl (jZ rfl rfl) (jT 3 rfl (Val.loadI rfl (by assumption) rfl) ?_))))
    refine jT 4 rfl (Val.moveS rfl) (jT 5 rfl (Val.moveI rfl) (jT 6 rfl (jZ rfl rfl) (jT 7 rfl (Val.loadI rfl (by assumption) rfl) ?_)))
    refine jT 8 rfl (Val.neqD rfl rfl rfl rfl (by assumption)) ?_
    refine j6 (jA (jF (jS (jg rfl (jM (jR (WX.inRet (jU (jU (WX.inRet (jU ?_)))))))))))
    refine jP [] (jr1 rfl (jtB rfl)) ?_
    refine ⟨rfl, rfl, EqP.f fun e => ?_⟩
    subst e
    exact hxy (hx.symm.trans hy)
  ·skip
   refine jS (jx rfl rfl (jM (jB (jE (WC.exit (WX.thenExit (WX.thenExit (WX.inHit (jK (jg rfl (jM (jR ?_))))))))))))
   refine jP [] (jr1 rfl (jtB rfl)) ?_
   refine ⟨rfl, rfl, EqP.t ?_⟩
   have : k = l.length := by omega
   rw [this, List.take_length, hne, List.take_length] at heq
   exact heq
 ·skip
  refine jS (jg rfl (jM (jB (jS (jc rfl (jm (jo rfl) (jc rfl (jm (jo rfl) (jJ rfl rfl (jM (jF (jS (jg rfl (jM (jR (jU ?_))))))))))))))))
  exact jP [] (jr1 rfl (jtB rfl)) ⟨rfl, rfl, EqP.f fun h => hne (by rw [h])⟩
theorem eqSg (l m : List Sg) (v u : Value) (I : Mem) (hv : LsAt Sg.rep I l v) (hu : LsAt Sg.rep I m u) :
  Ctr Tryz.prog 100 [v, u] I [] (Still I (EqP (l = m))) := by
 have hlb : l.length ≤ 9223372036854775807 := by obtain ⟨_, h, _⟩ := hv; exact h.le
 obtain ⟨a1, c1, rfl⟩ := hv.sl
 obtain ⟨a2, c2, rfl⟩ := hu.sl
 refine Ctr.intro Tryz.func100 rfl rfl rfl fun E F => ?_
 by_cases hne : l.length = m.length
 ·skip
  refine jS (jg rfl (jM (jB (jS (jc rfl (jm (jo rfl) (jc rfl (jm (jo rfl) (jz rfl rfl (jM (jE (jV (jA (jB (jS (jc rfl (jm (jo rfl) (ja rfl (jM (WC.block ?_))))))))))))))))))))
  refine WC.loop (fun q ρ' I' L' => ∃ k : Nat, q = l.length - k ∧ k ≤ l.length ∧ I' = I ∧ ρ' 0 = .slice a1 l.length c1 ∧ ρ' 1 = .slice a2 m.length c2 ∧ ρ' 12 = vi l.length ∧ ρ' 13 = vi k ∧ L' = [F] ∧ l.take k = m.take k)
   l.length ⟨0, rfl, by omega, rfl, rfl, rfl, rfl, rfl, rfl, rfl⟩ ?_
  rintro q ρ' I0 L' ⟨k, rfl, hk, rfl, h0, h1, h12, h13, rfl, heq⟩
  refine ju4 h13 h12 h1 h0 ?_
  by_cases hkn : k < l.length
  ·have hkm : k < m.length := by omega
   obtain ⟨b, off, cap', cs, he, ⟨rfl, hi⟩, hA⟩ := hv.get k hkn
   cases he
   obtain ⟨b', off', cap'', cs', he', ⟨rfl, hi'⟩, hA'⟩ := hu.get k hkm
   cases he'
   have htk := take_more heq hkn hkm
   generalize hx : l[k] = x at *
   generalize hy : m[k] = y at *
   refine jS (jy rfl rfl (jM (jB (jF (jV (jA (jB (WC.block (jS (ja rfl (jf rfl (jM (jB ?_)))))))))))))
   by_cases hxy : x = y
   ·subst hxy
    refine j8 999 [] rfl (jT 0 rfl (Val.moveS rfl) (jT 1 rfl (Val.moveI rfl) (jT 2 rfl (jZ rfl rfl) (jT 3 rfl (Val.loadI rfl (by assumption) rfl) ?_))))
    refine jT 4 rfl (Val.moveS rfl) (jT 5 rfl (Val.moveI rfl) (jT 6 rfl (jZ rfl rfl) (jT 7 rfl (Val.loadI rfl (by assumption) rfl) ?_)))
    refine jT 8 rfl (Val.neqSame rfl rfl rfl) ?_
    exact j6 (jA (jE (jV (WX.inNormal (jA (jD (jX rfl rfl (ja rfl (jC (WX.thenK (WK.round (l.length - (k + 1)) (by omega) ⟨k + 1, rfl, by omega, rfl, rfl, rfl, rfl, rfl, rfl, htk rfl⟩)))))))))))
   ·have hcs : x.cs ≠ y.cs := fun e => hxy (Sg.inj e)
    refine j8 999 [] rfl (jT 0 rfl (Val.moveS rfl) (jT 1 rfl (Val.moveI rfl) (jT 2 rfl (jZ rfl rfl) (jT 3 rfl (Val.loadI rfl (by assumption) rfl) ?_))))
    refine jT 4 rfl (Val.moveS rfl) (jT 5 rfl (Val.moveI rfl) (jT 6 rfl (jZ rfl rfl) (jT 7 rfl (Val.loadI rfl (by assumption) rfl) ?_)))
    refine jT 8 rfl (Val.neqD rfl rfl rfl rfl (by assumption)) ?_
    refine j6 (jA (jF (jS (jg rfl (jM (jR (WX.inRet (jU (jU (WX.inRet (jU ?_)))))))))))
    refine jP [] (jr1 rfl (jtB rfl)) ?_
    refine ⟨rfl, rfl, EqP.f fun e => ?_⟩
    subst e
    exact hxy (hx.symm.trans hy)
  ·skip
   refine jS (jx rfl rfl (jM (jB (jE (WC.exit (WX.thenExit (WX.thenExit (WX.inHit (jK (jg rfl (jM (jR ?_))))))))))))
   refine jP [] (jr1 rfl (jtB rfl)) ?_
   refine ⟨rfl, rfl, EqP.t ?_⟩
   have : k = l.length := by omega
   rw [this, List.take_length, hne, List.take_length] at heq
   exact heq
 ·skip
  refine jS (jg rfl (jM (jB (jS (jc rfl (jm (jo rfl) (jc rfl (jm (jo rfl) (jJ rfl rfl (jM (jF (jS (jg rfl (jM (jR (jU ?_))))))))))))))))
  exact jP [] (jr1 rfl (jtB rfl)) ⟨rfl, rfl, EqP.f fun h => hne (by rw [h])⟩
theorem eqPnt (p q : Pnt) (t u : Value) (I : Mem) (hp : p.at_ I t) (hq : q.at_ I u) :
  Ctr Tryz.prog 98 [.agg (p.cs t).toArray, .agg (q.cs u).toArray] I [] (Still I (EqP (p = q))) := by
 have ht := hp.stops
 have hu := hq.stops
 obtain ⟨a1, c1, rfl⟩ := hp.sl
 obtain ⟨a2, c2, rfl⟩ := hq.sl
 refine Ctr.intro Tryz.func98 rfl rfl rfl fun E F => ?_
 refine jS (WL.boxA rfl rfl (fun _ => ?_))
 refine jW ?_
 refine WL.boxA rfl rfl (fun _ => ?_)
 refine jW ?_
 refine jg rfl (jN (jm (jn rfl) (jm (jp 1 rfl rfl rfl) (jm (jn rfl) (jm (jp 2 rfl rfl rfl) ?_)))))
 refine WL.eqI rfl rfl rfl (fun h => ?_) (fun h => ?_)
 refine jb rfl (jG (jm (jn rfl) (jG (jm (jt 1 rfl rfl rfl) (jG (jm (jn rfl) (jG (jm (jt 2 rfl rfl rfl) (jG ?_)))))))))
 refine WL.eqS rfl rfl rfl rfl rfl (fun h => ?_) (fun h => ?_)
 refine jk rfl (jb rfl (jG (jm (jn rfl) (jG (jm (jt 1 rfl rfl rfl) (jG (jm (jn rfl) (jG (jm (jt 2 rfl rfl rfl) (jG ?_))))))))))
 refine WL.eqS rfl rfl rfl rfl rfl (fun h => ?_) (fun h => ?_)
 refine jk rfl (jb rfl (jG (jm (jn rfl) (jG (jm (jt 1 rfl rfl rfl) (jG (jm (jn rfl) (jG (jm (jt 2 rfl rfl rfl) (jG ?_))))))))))
 refine WL.eqS rfl rfl rfl rfl rfl (fun h => ?_) (fun h => ?_)
 refine jk rfl (jb rfl (jG (jm (jn rfl) (jG (jm (jp 1 rfl rfl rfl) (jG (jm (jn rfl) (jG (jm (jp 2 rfl rfl rfl) (jG ?_))))))))))
 refine WL.callE rfl rfl (eqStp _ _ _ _ _ ht hu) rfl (fun h => ?_) (fun h => ?_)
 refine jk rfl (jg rfl (jM (jR ?_)))
 refine jP [] (jr1 rfl (jtB rfl)) ?_
 rename_i h0 h1 h2 h3
 exact ⟨rfl, rfl, EqP.t (Pnt.of h0 (Col.inj h1) (Pt.inj h2) (Pt.inj h3) h)⟩
 ·skip
  refine jk rfl (jg rfl (jM (jR ?_)))
  exact jP [] (jr1 rfl (jtB rfl)) ⟨rfl, rfl, EqP.f fun e => h (by subst e; rfl)⟩
 ·skip
  refine jk rfl (jb rfl (jH (jH (jH (jH (jH (jk rfl (jg rfl (jM (jR ?_))))))))))
  exact jP [] (jr1 rfl (jtB rfl)) ⟨rfl, rfl, EqP.f fun e => h (by subst e; rfl)⟩
 ·skip
  refine jk rfl (jb rfl (jH (jH (jH (jH (jH (jk rfl (jb rfl (jH (jH (jH (jH (jH (jk rfl (jg rfl (jM (jR ?_)))))))))))))))))
  exact jP [] (jr1 rfl (jtB rfl)) ⟨rfl, rfl, EqP.f fun e => h (by subst e; rfl)⟩
 ·skip
  refine jk rfl (jb rfl (jH (jH (jH (jH (jH (jk rfl (jb rfl (jH (jH (jH (jH (jH (jk rfl (jb rfl (jH (jH (jH (jH (jH (jk rfl (jg rfl (jM (jR ?_))))))))))))))))))))))))
  exact jP [] (jr1 rfl (jtB rfl)) ⟨rfl, rfl, EqP.f fun e => h (by subst e; rfl)⟩
 ·skip
  refine jb rfl (jH (jH (jH (jH (jH (jk rfl (jb rfl (jH (jH (jH (jH (jH (jk rfl (jb rfl (jH (jH (jH (jH (jH (jk rfl (jb rfl (jH (jH (jH (jH (jH (jk rfl (jg rfl (jM (jR ?_))))))))))))))))))))))))))))))
  exact jP [] (jr1 rfl (jtB rfl)) ⟨rfl, rfl, EqP.f fun e => h (by subst e; rfl)⟩
theorem eqSty (p q : Sty) (t u d t2 u2 d2 : Value) (I : Mem) (hp : p.at_ I t u d) (hq : q.at_ I t2 u2 d2) :
  Ctr Tryz.prog 61 [.agg (p.cs t u d).toArray, .agg (q.cs t2 u2 d2).toArray] I [] (Still I (EqP (p = q))) := by
 have hp0 := hp
 have hq0 := hq
 obtain ⟨a1, c1, a2, c2, a3, c3, rfl, rfl, rfl⟩ := hp.sl
 obtain ⟨b1, d1, b2, d2, b3, d3, rfl, rfl, rfl⟩ := hq.sl
 refine Ctr.intro Tryz.func61 rfl rfl rfl fun E F => ?_
 refine jS (WL.boxA rfl rfl (fun _ => ?_))
 refine jW ?_
 refine WL.boxA rfl rfl (fun _ => ?_)
 refine jW ?_
 refine jg rfl (jN (WL.ap1 (jm (jn rfl) (WL.ap1 (jm (jt 1 rfl rfl rfl) (WL.ap1 (jm (jn rfl) (WL.ap1 (jm (jt 2 rfl rfl rfl) (WL.ap1 ?_))))))))))
 refine WL.callE rfl rfl (eqPnt p.fill q.fill _ _ _ hp.fill hq.fill) rfl (fun h => ?_) (fun h => ?_)
 refine WL.ap1 (jb rfl (WL.ap1 (jG (jm (jn rfl) (WL.ap1 (jG (jm (jt 1 rfl rfl rfl) (WL.ap1 (jG (jm (jn rfl) (WL.ap1 (jG (jm (jt 2 rfl rfl rfl) (WL.ap1 (jG ?_)))))))))))))))
 refine WL.callE rfl rfl (eqPnt p.pen q.pen _ _ _ hp.pen hq.pen) rfl (fun h => ?_) (fun h => ?_)
 refine WL.ap1 (jk rfl (WL.ap1 (jb rfl (WL.ap1 (jG (jm (jn rfl) (WL.ap1 (jG (jm (jp 1 rfl rfl rfl) (WL.ap1 (jG (jm (jn rfl) (WL.ap1 (jG (jm (jp 2 rfl rfl rfl) (WL.ap1 (jG ?_)))))))))))))))))
 refine WL.eqI rfl rfl rfl (fun h => ?_) (fun h => ?_)
 refine WL.ap1 (jk rfl (WL.ap1 (jb rfl (WL.ap1 (jG (jm (jn rfl) (WL.ap1 (jG (jm (jp 1 rfl rfl rfl) (WL.ap1 (jG (jm (jn rfl) (WL.ap1 (jG (jm (jp 2 rfl rfl rfl) (WL.ap1 (jG ?_)))))))))))))))))
 refine WL.eqI rfl rfl rfl (fun h => ?_) (fun h => ?_)
 refine WL.ap1 (jk rfl (WL.ap1 (jb rfl (WL.ap1 (jG (jm (jn rfl) (WL.ap1 (jG (jm (jp 1 rfl rfl rfl) (WL.ap1 (jG (jm (jn rfl) (WL.ap1 (jG (jm (jp 2 rfl rfl rfl) (WL.ap1 (jG ?_)))))))))))))))))
 refine WL.eqI rfl rfl rfl (fun h => ?_) (fun h => ?_)
 refine WL.ap1 (jk rfl (WL.ap0 (jb rfl (jG (jm (jn rfl) (jG (jm (jn rfl) (jG (jm (jp 1 rfl rfl rfl) (jG (jm (jn rfl) (jG (jm (jn rfl) (jG (jm (jp 2 rfl rfl rfl) (jG ?_))))))))))))))))
 refine WL.callE rfl rfl (eqInt _ _ _ _ _ hp.dash hq.dash) rfl (fun h => ?_) (fun h => ?_)
 refine jk rfl (jb rfl (jG (jm (jn rfl) (jG (jm (jn rfl) (jG (jm (jp 1 rfl rfl rfl) (jG (jm (jn rfl) (jG (jm (jn rfl) (jG (jm (jp 2 rfl rfl rfl) (jG ?_))))))))))))))
 refine WL.eqI rfl rfl rfl (fun h => ?_) (fun h => ?_)
 refine jk rfl (jb rfl (jG (jm (jn rfl) (jG (jm (jp 1 rfl rfl rfl) (jG (jm (jn rfl) (jG (jm (jp 2 rfl rfl rfl) (jG ?_))))))))))
 refine WL.eqI rfl rfl rfl (fun h => ?_) (fun h => ?_)
 refine jk rfl (jb rfl (jG (jm (jn rfl) (jG (jm (jp 1 rfl rfl rfl) (jG (jm (jn rfl) (jG (jm (jp 2 rfl rfl rfl) (jG ?_))))))))))
 refine WL.eqI rfl rfl rfl (fun h => ?_) (fun h => ?_)
 refine jk rfl (jg rfl (jM (jR ?_)))
 refine jP [] (jr1 rfl (jtB rfl)) ?_
 rename_i h0 h1 h2 h3 h4 h5 h6 h7
 exact ⟨rfl, rfl, EqP.t (Sty.of h0 h1 h2 h3 h4 h5 h6 h7 h)⟩
 ·skip
  refine jk rfl (jg rfl (jM (jR ?_)))
  exact jP [] (jr1 rfl (jtB rfl)) ⟨rfl, rfl, EqP.f fun e => h (by subst e; rfl)⟩
 ·skip
  refine jk rfl (jb rfl (jH (jH (jH (jH (jH (jk rfl (jg rfl (jM (jR ?_))))))))))
  exact jP [] (jr1 rfl (jtB rfl)) ⟨rfl, rfl, EqP.f fun e => h (by subst e; rfl)⟩
 ·skip
  refine jk rfl (jb rfl (jH (jH (jH (jH (jH (jk rfl (jb rfl (jH (jH (jH (jH (jH (jk rfl (jg rfl (jM (jR ?_)))))))))))))))))
  exact jP [] (jr1 rfl (jtB rfl)) ⟨rfl, rfl, EqP.f fun e => h (by subst e; rfl)⟩
 ·skip
  refine jk rfl (jb rfl (jH (jH (jH (jH (jH (jH (jH (jk rfl (jb rfl (jH (jH (jH (jH (jH (jk rfl (jb rfl (jH (jH (jH (jH (jH (jk rfl (jg rfl (jM (jR ?_))))))))))))))))))))))))))
  exact jP [] (jr1 rfl (jtB rfl)) ⟨rfl, rfl, EqP.f fun e => h (by subst e; rfl)⟩
 ·skip
  refine WL.ap1 (jk rfl (WL.ap0 (jb rfl (jH (jH (jH (jH (jH (jH (jH (jk rfl (jb rfl (jH (jH (jH (jH (jH (jH (jH (jk rfl (jb rfl (jH (jH (jH (jH (jH (jk rfl (jb rfl (jH (jH (jH (jH (jH (jk rfl (jg rfl (jM (jR ?_)))))))))))))))))))))))))))))))))))))
  exact jP [] (jr1 rfl (jtB rfl)) ⟨rfl, rfl, EqP.f fun e => h (by subst e; rfl)⟩
 ·skip
  refine WL.ap1 (jk rfl (WL.ap1 (jb rfl (WL.ap1 (jH (WL.ap1 (jH (WL.ap1 (jH (WL.ap1 (jH (WL.ap1 (jH (WL.ap1 (jk rfl (WL.ap0 (jb rfl (jH (jH (jH (jH (jH (jH (jH (jk rfl (jb rfl (jH (jH (jH (jH (jH (jH (jH (jk rfl (jb rfl (jH (jH (jH (jH ?_)))))))))))))))))))))))))))))))))))))))
  refine jH (jk rfl (jb rfl (jH (jH (jH (jH (jH (jk rfl (jg rfl (jM (jR ?_)))))))))))
  exact jP [] (jr1 rfl (jtB rfl)) ⟨rfl, rfl, EqP.f fun e => h (by subst e; rfl)⟩
 ·skip
  refine WL.ap1 (jk rfl (WL.ap1 (jb rfl (WL.ap1 (jH (WL.ap1 (jH (WL.ap1 (jH (WL.ap1 (jH (WL.ap1 (jH (WL.ap1 (jk rfl (WL.ap1 (jb rfl (WL.ap1 (jH (WL.ap1 (jH (WL.ap1 (jH (WL.ap1 (jH (WL.ap1 (jH (WL.ap1 (jk rfl (WL.ap0 (jb rfl (jH (jH (jH (jH (jH (jH (jH (jk rfl ?_)))))))))))))))))))))))))))))))))))))))
  refine jb rfl (jH (jH (jH (jH (jH (jH (jH (jk rfl (jb rfl (jH (jH (jH (jH (jH (jk rfl (jb rfl (jH (jH (jH (jH (jH (jk rfl (jg rfl (jM (jR ?_)))))))))))))))))))))))))
  exact jP [] (jr1 rfl (jtB rfl)) ⟨rfl, rfl, EqP.f fun e => h (by subst e; rfl)⟩
 ·skip
  refine WL.ap1 (jk rfl (WL.ap1 (jb rfl (WL.ap1 (jH (WL.ap1 (jH (WL.ap1 (jH (WL.ap1 (jH (WL.ap1 (jH (WL.ap1 (jk rfl (WL.ap1 (jb rfl (WL.ap1 (jH (WL.ap1 (jH (WL.ap1 (jH (WL.ap1 (jH (WL.ap1 (jH (WL.ap1 (jk rfl (WL.ap1 (jb rfl (WL.ap1 (jH (WL.ap1 (jH (WL.ap1 (jH (WL.ap1 (jH ?_)))))))))))))))))))))))))))))))))))))))
  refine WL.ap1 (jH (WL.ap1 (jk rfl (WL.ap0 (jb rfl (jH (jH (jH (jH (jH (jH (jH (jk rfl (jb rfl (jH (jH (jH (jH (jH (jH (jH (jk rfl (jb rfl (jH (jH (jH (jH (jH (jk rfl (jb rfl (jH (jH (jH (jH (jH (jk rfl (jg rfl (jM (jR ?_)))))))))))))))))))))))))))))))))))))))
  exact jP [] (jr1 rfl (jtB rfl)) ⟨rfl, rfl, EqP.f fun e => h (by subst e; rfl)⟩
 ·skip
  refine WL.ap1 (jb rfl (WL.ap1 (jH (WL.ap1 (jH (WL.ap1 (jH (WL.ap1 (jH (WL.ap1 (jH (WL.ap1 (jk rfl (WL.ap1 (jb rfl (WL.ap1 (jH (WL.ap1 (jH (WL.ap1 (jH (WL.ap1 (jH (WL.ap1 (jH (WL.ap1 (jk rfl (WL.ap1 (jb rfl (WL.ap1 (jH (WL.ap1 (jH (WL.ap1 (jH (WL.ap1 (jH (WL.ap1 (jH ?_)))))))))))))))))))))))))))))))))))))))
  refine WL.ap1 (jk rfl (WL.ap1 (jb rfl (WL.ap1 (jH (WL.ap1 (jH (WL.ap1 (jH (WL.ap1 (jH (WL.ap1 (jH (WL.ap1 (jk rfl (WL.ap0 (jb rfl (jH (jH (jH (jH (jH (jH (jH (jk rfl (jb rfl (jH (jH (jH (jH (jH (jH (jH (jk rfl (jb rfl (jH (jH (jH (jH ?_)))))))))))))))))))))))))))))))))))))))
  refine jH (jk rfl (jb rfl (jH (jH (jH (jH (jH (jk rfl (jg rfl (jM (jR ?_)))))))))))
  exact jP [] (jr1 rfl (jtB rfl)) ⟨rfl, rfl, EqP.f fun e => h (by subst e; rfl)⟩
theorem eqPath (l m : List Sg) (v u : Value) (I : Mem) (hv : LsAt Sg.rep I l v) (hu : LsAt Sg.rep I m u) :
  Ctr Tryz.prog 62 [v, u] I [] (Still I (EqP (l = m))) := by
 have hv0 := hv
 have hu0 := hu
 obtain ⟨a1, c1, rfl⟩ := hv.sl
 obtain ⟨a2, c2, rfl⟩ := hu.sl
 refine Ctr.intro Tryz.func62 rfl rfl rfl fun E F => ?_
 refine jS (jg rfl (jN (jc rfl (jc rfl ?_))))
 refine WL.callE rfl rfl (eqSg _ _ _ _ _ hv hu) rfl (fun h => ?_) (fun h => ?_)
 ·skip
  refine jg rfl (jM (jR ?_))
  exact jP [] (jr1 rfl (jtB rfl)) ⟨rfl, rfl, EqP.t h⟩
 ·skip
  refine jg rfl (jM (jR ?_))
  exact jP [] (jr1 rfl (jtB rfl)) ⟨rfl, rfl, EqP.f h⟩
theorem eqAtr (p q : Atr) (t u d r t2 u2 d2 r2 : Value) (I : Mem) (hp : p.at_ I t u d r) (hq : q.at_ I t2 u2 d2 r2) :
  Ctr Tryz.prog 20 [.agg (p.cs t u d r).toArray, .agg (q.cs t2 u2 d2 r2).toArray] I [] (Still I (EqP (p = q))) := by
 obtain ⟨a1, c1, a2, c2, a3, c3, a4, c4, rfl, rfl, rfl, rfl⟩ := hp.sl
 obtain ⟨b1, d1, b2, d2, b3, d3, b4, d4, rfl, rfl, rfl, rfl⟩ := hq.sl
 refine Ctr.intro Tryz.func20 rfl rfl rfl fun E F => ?_
 refine jS (WL.boxA rfl rfl (fun _ => ?_))
 refine jW ?_
 refine WL.boxA rfl rfl (fun _ => ?_)
 refine jW ?_
 refine jg rfl (jN (jm (jn rfl) (jm (jt 1 rfl rfl rfl) (jm (jn rfl) (jm (jt 2 rfl rfl rfl) ?_)))))
 refine WL.eqS rfl rfl rfl rfl rfl (fun h => ?_) (fun h => ?_)
 refine jb rfl (jG (jm (jn rfl) (jG (jm (jt 1 rfl rfl rfl) (jG (jm (jn rfl) (jG (jm (jt 2 rfl rfl rfl) (jG ?_)))))))))
 refine WL.callE rfl rfl (eqSty p.sty q.sty _ _ _ _ _ _ _ hp.sty hq.sty) rfl (fun h => ?_) (fun h => ?_)
 refine jk rfl (jb rfl (jG (jm (jn rfl) (jG (jm (jp 1 rfl rfl rfl) (jG (jm (jn rfl) (jG (jm (jp 2 rfl rfl rfl) (jG ?_))))))))))
 refine WL.callE rfl rfl (eqPath p.path q.path _ _ _ hp.path hq.path) rfl (fun h => ?_) (fun h => ?_)
 refine jk rfl (jg rfl (jM (jR ?_)))
 refine jP [] (jr1 rfl (jtB rfl)) ?_
 rename_i h0 h1
 exact ⟨rfl, rfl, EqP.t (Atr.of (Mtx.inj h0) h1 h)⟩
 ·skip
  refine jk rfl (jg rfl (jM (jR ?_)))
  exact jP [] (jr1 rfl (jtB rfl)) ⟨rfl, rfl, EqP.f fun e => h (by subst e; rfl)⟩
 ·skip
  refine jk rfl (jb rfl (jH (jH (jH (jH (jH (jk rfl (jg rfl (jM (jR ?_))))))))))
  exact jP [] (jr1 rfl (jtB rfl)) ⟨rfl, rfl, EqP.f fun e => h (by subst e; rfl)⟩
 ·skip
  refine jb rfl (jH (jH (jH (jH (jH (jk rfl (jb rfl (jH (jH (jH (jH (jH (jk rfl (jg rfl (jM (jR ?_))))))))))))))))
  exact jP [] (jr1 rfl (jtB rfl)) ⟨rfl, rfl, EqP.f fun e => h (by subst e; rfl)⟩
theorem eqEnt (p q : Ent) (t u d r t2 u2 d2 r2 : Value) (I : Mem) (hp : p.at_ I t u d r) (hq : q.at_ I t2 u2 d2 r2) :
  Ctr Tryz.prog 82 [.agg (p.cs t u d r).toArray, .agg (q.cs t2 u2 d2 r2).toArray] I [] (Still I (EqP (p = q))) := by
 obtain ⟨a1, c1, a2, c2, a3, c3, a4, c4, rfl, rfl, rfl, rfl⟩ := hp.sl
 obtain ⟨b1, d1, b2, d2, b3, d3, b4, d4, rfl, rfl, rfl, rfl⟩ := hq.sl
 refine Ctr.intro Tryz.func82 rfl rfl rfl fun E F => ?_
 refine jS (WL.boxA rfl rfl (fun _ => ?_))
 refine jW ?_
 refine WL.boxA rfl rfl (fun _ => ?_)
 refine jW ?_
 refine jg rfl (jN (jm (jn rfl) (jm (jp 1 rfl rfl rfl) (jm (jn rfl) (jm (jp 2 rfl rfl rfl) ?_)))))
 refine WL.eqI rfl rfl rfl (fun h => ?_) (fun h => ?_)
 refine jb rfl (jG (jm (jn rfl) (jG (jm (jp 1 rfl rfl rfl) (jG (jm (jn rfl) (jG (jm (jp 2 rfl rfl rfl) (jG ?_)))))))))
 refine WL.eqB rfl rfl rfl (fun h => ?_) (fun h => ?_)
 refine jk rfl (jb rfl (jG (jm (jn rfl) (jG (jm (jp 1 rfl rfl rfl) (jG (jm (jn rfl) (jG (jm (jp 2 rfl rfl rfl) (jG ?_))))))))))
 refine WL.eqI rfl rfl rfl (fun h => ?_) (fun h => ?_)
 refine jk rfl (jb rfl (jG (jm (jn rfl) (jG (jm (jt 1 rfl rfl rfl) (jG (jm (jn rfl) (jG (jm (jt 2 rfl rfl rfl) (jG ?_))))))))))
 refine WL.callE rfl rfl (eqAtr p.atr q.atr _ _ _ _ _ _ _ _ _ hp.atr hq.atr) rfl (fun h => ?_) (fun h => ?_)
 refine jk rfl (jg rfl (jM (jR ?_)))
 refine jP [] (jr1 rfl (jtB rfl)) ?_
 rename_i h0 h1 h2
 exact ⟨rfl, rfl, EqP.t (Ent.of h0 h1 h2 h)⟩
 ·skip
  refine jk rfl (jg rfl (jM (jR ?_)))
  exact jP [] (jr1 rfl (jtB rfl)) ⟨rfl, rfl, EqP.f fun e => h (by subst e; rfl)⟩
 ·skip
  refine jk rfl (jb rfl (jH (jH (jH (jH (jH (jk rfl (jg rfl (jM (jR ?_))))))))))
  exact jP [] (jr1 rfl (jtB rfl)) ⟨rfl, rfl, EqP.f fun e => h (by subst e; rfl)⟩
 ·skip
  refine jk rfl (jb rfl (jH (jH (jH (jH (jH (jk rfl (jb rfl (jH (jH (jH (jH (jH (jk rfl (jg rfl (jM (jR ?_)))))))))))))))))
  exact jP [] (jr1 rfl (jtB rfl)) ⟨rfl, rfl, EqP.f fun e => h (by subst e; rfl)⟩
 ·skip
  refine jb rfl (jH (jH (jH (jH (jH (jk rfl (jb rfl (jH (jH (jH (jH (jH (jk rfl (jb rfl (jH (jH (jH (jH (jH (jk rfl (jg rfl (jM (jR ?_)))))))))))))))))))))))
  exact jP [] (jr1 rfl (jtB rfl)) ⟨rfl, rfl, EqP.f fun e => h (by subst e; rfl)⟩
theorem eqFunc (l m : List Ent) (v u : Value) (I : Mem) (hv : LsAt Ent.rep I l v) (hu : LsAt Ent.rep I m u) :
  Ctr Tryz.prog 81 [v, u, .func (.func 82) #[] #[]] I [] (Still I (EqP (l = m))) := by
 have hlb : l.length ≤ 9223372036854775807 := by obtain ⟨_, h, _⟩ := hv; exact h.le
 obtain ⟨a1, c1, rfl⟩ := hv.sl
 obtain ⟨a2, c2, rfl⟩ := hu.sl
 refine Ctr.intro Tryz.func81 rfl rfl rfl fun E F => ?_
 by_cases hne : l.length = m.length
 ·skip
  refine jS (jg rfl (jM (jB (jS (jc rfl (jm (jo rfl) (jc rfl (jm (jo rfl) (jz rfl rfl (jM (jE (jV (jA (jB (jS (jc rfl (jm (jo rfl) (ja rfl (jM (WC.block ?_))))))))))))))))))))
  refine WC.loop (fun q ρ' I' L' => ∃ k : Nat, q = l.length - k ∧ k ≤ l.length ∧ I' = I ∧ ρ' 1 = .slice a2 m.length c2 ∧ ρ' 2 = .func (.func 82) #[] #[] ∧ ρ' 15 = .slice a1 l.length c1 ∧ ρ' 16 = vi l.length ∧ ρ' 17 = vi k ∧ L' = [F] ∧ l.take k = m.take k)
   l.length ⟨0, rfl, by omega, rfl, rfl, rfl, rfl, rfl, rfl, rfl, rfl⟩ ?_
  rintro q ρ' I0 L' ⟨k, rfl, hk, rfl, h1, h2, h15, h16, h17, rfl, heq⟩
  refine ju5 h17 h16 h15 h2 h1 ?_
  by_cases hkn : k < l.length
  ·have hkm : k < m.length := by omega
   obtain ⟨b, off, cap', cs, he, ⟨t1, t2, t3, t4, rfl, hi⟩, hA⟩ := hv.get k hkn
   cases he
   obtain ⟨b', off', cap'', cs', he', ⟨u1, u2, u3, u4, rfl, hi'⟩, hA'⟩ := hu.get k hkm
   cases he'
   have htk := take_more heq hkn hkm
   generalize hx : l[k] = x at *
   generalize hy : m[k] = y at *
   obtain ⟨b1, r1, b2, r2, b3, r3, b4, r4, rfl, rfl, rfl, rfl⟩ := hi.sl
   obtain ⟨p1, q1, p2, q2, p3, q3, p4, q4, rfl, rfl, rfl, rfl⟩ := hi'.sl
   refine jS (jy rfl rfl (jM (jB (jF (jV (jA (jB (WC.block (jS (ja rfl (jm (jZ rfl rfl) (jm (Val.loadI rfl (by assumption) rfl) ?_))))))))))))
   refine WL.alloc rfl (fun _ => ?_)
   refine jW ?_
   refine jf rfl (WL.stA 1 rfl rfl rfl rfl ?_)
   refine jN (jc rfl (ja rfl (jm (jZ rfl rfl) (jm (Val.loadI rfl (by assumption) rfl) ?_))))
   refine WL.alloc rfl (fun _ => ?_)
   refine jW ?_
   refine WL.stA 2 rfl rfl rfl rfl ?_
   refine jN (jm (Val.moveF rfl) (jm (jt 1 rfl rfl rfl) (jm (jt 2 rfl rfl rfl) ?_)))
   refine WL.callE rfl rfl (eqEnt x y _ _ _ _ _ _ _ _ _ hi hi') rfl (fun h => ?_) (fun h => ?_)
   ·skip
    exact jl rfl (jM (jE (jV (WX.inNormal (jA (jD (jX rfl rfl (ja rfl (jC (WX.conv (fun w h => h.sub [0] rfl) (WX.thenK (WK.round (l.length - (k + 1)) (by omega) ⟨k + 1, rfl, by omega, rfl, rfl, rfl, rfl, rfl, rfl, rfl, htk h⟩))))))))))))
   ·skip
    refine jl rfl (jM (jF (jS (jg rfl (jM (jR (WX.inRet (jU (jU (WX.inRet (jU ?_)))))))))))
    refine jP [] (jr1 rfl (jtB rfl)) ?_
    refine ⟨rfl, rfl, EqP.f fun e => ?_⟩
    subst e
    exact h (hx.symm.trans hy)
  ·skip
   refine jS (jx rfl rfl (jM (jB (jE (WC.exit (WX.thenExit (WX.thenExit (WX.inHit (jK (jg rfl (jM (jR ?_))))))))))))
   refine jP [] (jr1 rfl (jtB rfl)) ?_
   refine ⟨rfl, rfl, EqP.t ?_⟩
   have : k = l.length := by omega
   rw [this, List.take_length, hne, List.take_length] at heq
   exact heq
 ·skip
  refine jS (jg rfl (jM (jB (jS (jc rfl (jm (jo rfl) (jc rfl (jm (jo rfl) (jJ rfl rfl (jM (jF (jS (jg rfl (jM (jR (jU ?_))))))))))))))))
  exact jP [] (jr1 rfl (jtB rfl)) ⟨rfl, rfl, EqP.f fun h => hne (by rw [h])⟩
theorem eqSame (l m : List Ent) (v u : Value) (I : Mem) (hv : LsAt Ent.rep I l v) (hu : LsAt Ent.rep I m u) :
  Ctr Tryz.prog 33 [v, u] I [] (Still I (EqP (l = m))) := by
 have hv0 := hv
 have hu0 := hu
 obtain ⟨a1, c1, rfl⟩ := hv.sl
 obtain ⟨a2, c2, rfl⟩ := hu.sl
 refine Ctr.intro Tryz.func33 rfl rfl rfl fun E F => ?_
 refine jS (jg rfl (jN (jc rfl (jc rfl ?_))))
 refine WL.callE rfl rfl (eqFunc _ _ _ _ _ hv hu) rfl (fun h => ?_) (fun h => ?_)
 ·skip
  refine jg rfl (jM (jR ?_))
  exact jP [] (jr1 rfl (jtB rfl)) ⟨rfl, rfl, EqP.t h⟩
 ·skip
  refine jg rfl (jM (jR ?_))
  exact jP [] (jr1 rfl (jtB rfl)) ⟨rfl, rfl, EqP.f h⟩
theorem room_ctr (a : Int) (I : Mem) : Ctr Tryz.prog 53 [vi a] I [] (Still I (EqP (Room a))) := by
 refine Ctr.intro Tryz.func53 rfl rfl rfl fun E F => ?_
 refine jS (jg rfl (jN (ja rfl ?_)))
 refine WL.geI rfl rfl rfl (fun h => ?_) (fun h => ?_)
 refine jb rfl (jG (ja rfl (jG ?_)))
 refine WL.leI rfl rfl rfl (fun h => ?_) (fun h => ?_)
 refine jk rfl (jg rfl (jM (jR ?_)))
 rotate_left
 refine jk rfl (jg rfl (jM (jR ?_)))
 rotate_left
 refine jb rfl (jH (jH (jk rfl (jg rfl (jM (jR ?_))))))
 rotate_left
 all_goals
  refine jP [] (jr1 rfl (jtB rfl)) ?_
 all_goals refine ⟨rfl, rfl, ?_⟩
 all_goals unfold Room
 all_goals first | exact EqP.t (by omega) | exact EqP.f (by omega)
theorem inn_ctr (p : Pt) (I : Mem) : Ctr Tryz.prog 60 [.agg p.cs.toArray] I [] (Still I (EqP p.inn)) := by
 refine Ctr.intro Tryz.func60 rfl rfl rfl fun E F => ?_
 refine jS (WL.boxA rfl rfl (fun _ => ?_))
 refine jW ?_
 refine jg rfl (jN (jm (jn rfl) (jm (jp 1 rfl rfl rfl) ?_)))
 refine WL.callE rfl rfl (room_ctr p.x _) rfl (fun h => ?_) (fun h => ?_)
 ·skip
  refine jb rfl (jG (jm (jn rfl) (jG (jm (jp 1 rfl rfl rfl) (jG ?_)))))
  refine WL.callE rfl rfl (room_ctr p.y _) rfl (fun h2 => ?_) (fun h2 => ?_)
  ·skip
   refine jk rfl (jg rfl (jM (jR ?_)))
   exact jP [] (jr1 rfl (jtB rfl)) ⟨rfl, rfl, EqP.t ⟨h, h2⟩⟩
  ·skip
   refine jk rfl (jg rfl (jM (jR ?_)))
   exact jP [] (jr1 rfl (jtB rfl)) ⟨rfl, rfl, EqP.f fun e => h2 e.2⟩
 ·skip
  refine jb rfl (jH (jH (jH (jk rfl (jg rfl (jM (jR ?_)))))))
  exact jP [] (jr1 rfl (jtB rfl)) ⟨rfl, rfl, EqP.f fun e => h e.1⟩
theorem colRight_ctr (c : Col) (I : Mem) : Ctr Tryz.prog 93 [.agg c.cs.toArray] I [] (Still I (EqP c.right)) := by
 refine Ctr.intro Tryz.func93 rfl rfl rfl fun E F => ?_
 refine jS (WL.boxA rfl rfl (fun _ => ?_))
 refine jW ?_
 refine jg rfl (jN (jm (Val.indexAddrA rfl rfl (by omega) (by omega)) ?_))
 refine jm (jp 1 rfl rfl rfl) (jm (Val.indexAddrA rfl rfl (by omega) (by omega)) ?_)
 refine jm (jp 1 rfl rfl rfl) (jm (Val.indexAddrA rfl rfl (by omega) (by omega)) ?_)
 refine jm (jp 1 rfl rfl rfl) (jm (Val.max3 rfl rfl rfl) ?_)
 refine jm (Val.indexAddrA rfl rfl (by omega) (by omega)) ?_
 refine jm (jp 1 rfl rfl rfl) ?_
 refine WL.leI rfl rfl rfl (fun h => ?_) (fun h => ?_)
 refine jg rfl (jM (jR ?_))
 rotate_left
 refine jg rfl (jM (jR ?_))
 rotate_left
 all_goals
  refine jP [] (jr1 rfl (jtB rfl)) ?_
 all_goals refine ⟨rfl, rfl, ?_⟩
 all_goals unfold Col.right
 all_goals first | exact EqP.t (by omega) | exact EqP.f (by omega)
theorem near_ctr (p : Pt) (I : Mem) : Ctr Tryz.prog 94 [.agg p.cs.toArray] I [] (Still I (EqP p.near)) := by
 refine Ctr.intro Tryz.func94 rfl rfl rfl fun E F => ?_
 refine jS (WL.boxA rfl rfl (fun _ => ?_))
 refine jW ?_
 refine jg rfl (jN (jm (jn rfl) (jm (jp 1 rfl rfl rfl) (jm (jn rfl) (jm (jp 1 rfl rfl rfl) (jm (Val.minI rfl rfl) ?_))))))
 by_cases h1 : -16777216 ≤ min p.x p.y
 ·skip
  refine jm (Val.geq rfl rfl (decide_eq_true (by omega))) ?_
  refine jb rfl (jG (jm (jn rfl) (jG (jm (jp 1 rfl rfl rfl) (jG (jm (jn rfl) (jG (jm (jp 1 rfl rfl rfl) (jG (jm (Val.maxI rfl rfl) ?_))))))))))
  refine jG ?_
  refine WL.leI rfl rfl rfl (fun h => ?_) (fun h => ?_)
  refine jk rfl (jg rfl (jM (jR ?_)))
  rotate_left
  refine jk rfl (jg rfl (jM (jR ?_)))
  rotate_left
  all_goals
   refine jP [] (jr1 rfl (jtB rfl)) ?_
  all_goals refine ⟨rfl, rfl, ?_⟩
  all_goals unfold Pt.near
  all_goals first | exact EqP.t (by omega) | exact EqP.f (by omega)
 ·skip
  refine jm (Val.geq rfl rfl (decide_eq_false (by omega))) ?_
  refine jb rfl (jH (jH (jH (jH (jH (jH (jk rfl (jg rfl (jM (jR ?_))))))))))
  refine jP [] (jr1 rfl (jtB rfl)) ?_
  refine ⟨rfl, rfl, EqP.f ?_⟩
  unfold Pt.near
  omega
theorem mtxRight_ctr (m : Mtx) (I : Mem) : Ctr Tryz.prog 16 [.agg m.cs.toArray] I [] (Still I (EqP m.right)) := by
 refine Ctr.intro Tryz.func16 rfl rfl rfl fun E F => ?_
 refine jS (WL.boxA rfl rfl (fun _ => ?_))
 refine jW ?_
 refine jg rfl (jM (jB (jS (jm (jn rfl) (jm (jp 1 rfl rfl rfl) (jm (jn rfl) (jm (jp 1 rfl rfl rfl) (jm (jn rfl) (jm (jp 1 rfl rfl rfl) (jm (jn rfl) (jm (jp 1 rfl rfl rfl) (jm (Val.build (cs := [vi m.a, vi m.b, vi m.c, vi m.d]) rfl) ?_))))))))))))
 refine ja rfl (jM (WC.block ?_))
 rename_i g
 refine WC.loop (fun n ρ' I' L' => ∃ k : Nat, n = 4 - k ∧ k ≤ 4 ∧ I' = I ∧ ρ' 1 = ptr g ∧ ρ' 13 = .agg #[vi m.a, vi m.b, vi m.c, vi m.d] ∧ ρ' 14 = vi k ∧ L' = [F, box g 23 m.cs] ∧ (0 < k → Ety m.a) ∧ (1 < k → Ety m.b) ∧ (2 < k → Ety m.c) ∧ (3 < k → Ety m.d))
  4 ⟨0, rfl, by omega, rfl, rfl, rfl, rfl, rfl, fun h => by omega, fun h => by omega, fun h => by omega, fun h => by omega⟩ ?_
 rintro n ρ' I0 L' ⟨k, rfl, hk4, rfl, h1, h13, h14, rfl, q0, q1, q2, q3⟩
 refine ju3 h14 h13 h1 ?_
 have hcase : k = 0 ∨ k = 1 ∨ k = 2 ∨ k = 3 ∨ k = 4 := by omega
 rcases hcase with rfl | rfl | rfl | rfl | rfl
 ·skip
  refine jS (jy rfl rfl (jM (jB (jF (jV (jA (jB (WC.block (jS (jm (Val.index1 (v := vi m.a) rfl rfl (by decide) (by decide) rfl) ?_))))))))))
  by_cases hq : Ety m.a
  ·have hq' : -16777216 ≤ m.a ∧ m.a ≤ 16777216 := hq
   exact jf rfl (jN (ja rfl (jx rfl rfl (jb rfl (jG (ja rfl (jG (jL rfl rfl (jk rfl (jM (jE (jV (WX.inNormal (jA (jD (jX rfl rfl (ja rfl (jC (WX.thenK (WK.round 3 (by omega) ⟨1, rfl, by omega, rfl, rfl, rfl, rfl, rfl, fun h => hq, fun h => by omega, fun h => by omega, fun h => by omega⟩))))))))))))))))))))
  ·have hq' : ¬ (-16777216 ≤ m.a ∧ m.a ≤ 16777216) := hq
   refine jf rfl (jN (ja rfl ?_))
   refine WL.ltI rfl rfl rfl (fun h => ?_) (fun h => ?_)
   refine jb rfl (jH (jH (jk rfl (jM (jF (jS (jg rfl (jM (jR (WX.inRet (jU (jU (WX.inRet (jU ?_))))))))))))))
   rotate_left
   refine jb rfl (jG (ja rfl (jG (jO rfl rfl (jk rfl (jM (jF (jS (jg rfl (jM (jR (WX.inRet (jU (jU (WX.inRet (jU ?_))))))))))))))))
   rotate_left
   all_goals
    refine jP [] (jr1 rfl (jtB rfl)) ?_
   all_goals exact ⟨rfl, rfl, EqP.f fun e => hq e.1.1⟩
 ·skip
  refine jS (jy rfl rfl (jM (jB (jF (jV (jA (jB (WC.block (jS (jm (Val.index1 (v := vi m.b) rfl rfl (by decide) (by decide) rfl) ?_))))))))))
  by_cases hq : Ety m.b
  ·have hq' : -16777216 ≤ m.b ∧ m.b ≤ 16777216 := hq
   exact jf rfl (jN (ja rfl (jx rfl rfl (jb rfl (jG (ja rfl (jG (jL rfl rfl (jk rfl (jM (jE (jV (WX.inNormal (jA (jD (jX rfl rfl (ja rfl (jC (WX.thenK (WK.round 2 (by omega) ⟨2, rfl, by omega, rfl, rfl, rfl, rfl, rfl, fun h => q0 (by omega), fun h => hq, fun h => by omega, fun h => by omega⟩))))))))))))))))))))
  ·have hq' : ¬ (-16777216 ≤ m.b ∧ m.b ≤ 16777216) := hq
   refine jf rfl (jN (ja rfl ?_))
   refine WL.ltI rfl rfl rfl (fun h => ?_) (fun h => ?_)
   refine jb rfl (jH (jH (jk rfl (jM (jF (jS (jg rfl (jM (jR (WX.inRet (jU (jU (WX.inRet (jU ?_))))))))))))))
   rotate_left
   refine jb rfl (jG (ja rfl (jG (jO rfl rfl (jk rfl (jM (jF (jS (jg rfl (jM (jR (WX.inRet (jU (jU (WX.inRet (jU ?_))))))))))))))))
   rotate_left
   all_goals
    refine jP [] (jr1 rfl (jtB rfl)) ?_
   all_goals exact ⟨rfl, rfl, EqP.f fun e => hq e.1.2.1⟩
 ·skip
  refine jS (jy rfl rfl (jM (jB (jF (jV (jA (jB (WC.block (jS (jm (Val.index1 (v := vi m.c) rfl rfl (by decide) (by decide) rfl) ?_))))))))))
  by_cases hq : Ety m.c
  ·have hq' : -16777216 ≤ m.c ∧ m.c ≤ 16777216 := hq
   exact jf rfl (jN (ja rfl (jx rfl rfl (jb rfl (jG (ja rfl (jG (jL rfl rfl (jk rfl (jM (jE (jV (WX.inNormal (jA (jD (jX rfl rfl (ja rfl (jC (WX.thenK (WK.round 1 (by omega) ⟨3, rfl, by omega, rfl, rfl, rfl, rfl, rfl, fun h => q0 (by omega), fun h => q1 (by omega), fun h => hq, fun h => by omega⟩))))))))))))))))))))
  ·have hq' : ¬ (-16777216 ≤ m.c ∧ m.c ≤ 16777216) := hq
   refine jf rfl (jN (ja rfl ?_))
   refine WL.ltI rfl rfl rfl (fun h => ?_) (fun h => ?_)
   refine jb rfl (jH (jH (jk rfl (jM (jF (jS (jg rfl (jM (jR (WX.inRet (jU (jU (WX.inRet (jU ?_))))))))))))))
   rotate_left
   refine jb rfl (jG (ja rfl (jG (jO rfl rfl (jk rfl (jM (jF (jS (jg rfl (jM (jR (WX.inRet (jU (jU (WX.inRet (jU ?_))))))))))))))))
   rotate_left
   all_goals
    refine jP [] (jr1 rfl (jtB rfl)) ?_
   all_goals exact ⟨rfl, rfl, EqP.f fun e => hq e.1.2.2.1⟩
 ·skip
  refine jS (jy rfl rfl (jM (jB (jF (jV (jA (jB (WC.block (jS (jm (Val.index1 (v := vi m.d) rfl rfl (by decide) (by decide) rfl) ?_))))))))))
  by_cases hq : Ety m.d
  ·have hq' : -16777216 ≤ m.d ∧ m.d ≤ 16777216 := hq
   exact jf rfl (jN (ja rfl (jx rfl rfl (jb rfl (jG (ja rfl (jG (jL rfl rfl (jk rfl (jM (jE (jV (WX.inNormal (jA (jD (jX rfl rfl (ja rfl (jC (WX.thenK (WK.round 0 (by omega) ⟨4, rfl, by omega, rfl, rfl, rfl, rfl, rfl, fun h => q0 (by omega), fun h => q1 (by omega), fun h => q2 (by omega), fun h => hq⟩))))))))))))))))))))
  ·have hq' : ¬ (-16777216 ≤ m.d ∧ m.d ≤ 16777216) := hq
   refine jf rfl (jN (ja rfl ?_))
   refine WL.ltI rfl rfl rfl (fun h => ?_) (fun h => ?_)
   refine jb rfl (jH (jH (jk rfl (jM (jF (jS (jg rfl (jM (jR (WX.inRet (jU (jU (WX.inRet (jU ?_))))))))))))))
   rotate_left
   refine jb rfl (jG (ja rfl (jG (jO rfl rfl (jk rfl (jM (jF (jS (jg rfl (jM (jR (WX.inRet (jU (jU (WX.inRet (jU ?_))))))))))))))))
   rotate_left
   all_goals
    refine jP [] (jr1 rfl (jtB rfl)) ?_
   all_goals exact ⟨rfl, rfl, EqP.f fun e => hq e.1.2.2.2⟩
 ·have q := And.intro (q0 (by omega)) (And.intro (q1 (by omega)) (And.intro (q2 (by omega)) (q3 (by omega))))
  refine jS (jx rfl rfl (jM (jB (jE (WC.exit (WX.thenExit (WX.thenExit (WX.inHit (jK (jm (jn rfl) (jm (jp 1 rfl rfl rfl) ?_)))))))))))
  refine WL.callE rfl rfl (room_ctr m.e _) rfl (fun h => ?_) (fun h => ?_)
  ·skip
   refine jb rfl (jG (jm (jn rfl) (jG (jm (jp 1 rfl rfl rfl) (jG ?_)))))
   refine WL.callE rfl rfl (room_ctr m.f _) rfl (fun h2 => ?_) (fun h2 => ?_)
   ·skip
    refine jk rfl (jg rfl (jM (jR ?_)))
    exact jP [] (jr1 rfl (jtB rfl)) ⟨rfl, rfl, EqP.t ⟨q, h, h2⟩⟩
   ·skip
    refine jk rfl (jg rfl (jM (jR ?_)))
    exact jP [] (jr1 rfl (jtB rfl)) ⟨rfl, rfl, EqP.f fun e => h2 e.2.2⟩
  ·skip
   refine jb rfl (jH (jH (jH (jk rfl (jg rfl (jM (jR ?_)))))))
   exact jP [] (jr1 rfl (jtB rfl)) ⟨rfl, rfl, EqP.f fun e => h e.2.1⟩
-- PICKB
theorem stopsGo_snoc : ∀ (l : List Stp) (ok : Bool) (b : Option Stp) (s : Stp), stopsGo ok b (l ++ [s]) = (stopsGo ok b l && decide (s.fits (l.getLast?.or b)))
 | [], ok, b, s => by rw [List.nil_append, stopsGo, stopsGo, stopsGo]; rfl
 | x :: l, ok, b, s => by
  rw [List.cons_append, stopsGo, stopsGo, stopsGo_snoc l]
  congr 2
  cases l with
  | nil => simp
  | cons y l => simp [List.getLast?_cons]
theorem stops_ctr (l : List Stp) (v : Value) (I : Mem) (hv : LsAt Stp.rep I l v) : Ctr Tryz.prog 95 [v] I [] (Still I fun r => r = vi (stopsCheck l)) := by
 have hlb := hv.le
 obtain ⟨a1, c1, rfl⟩ := hv.sl
 refine Ctr.intro Tryz.func95 rfl rfl rfl fun E F => ?_
 by_cases h1 : 1 ≤ l.length
 case neg =>
  have h0 : l = [] := List.eq_nil_of_length_eq_zero (by omega)
  subst h0
  refine jS (jf rfl (jN (jc rfl (jm (jo rfl) (jm (Val.geq rfl rfl (decide_eq_false (by omega))) ?_)))))
  refine jb rfl (jH (jH (jH (jk rfl (jg rfl (jM (jB (jS (jc rfl (jm (jo rfl) (ja rfl (jM (WC.block (WC.loop (fun n ρ' I' L' => I' = I ∧ ρ' 3 = .bool false ∧ ρ' 15 = vi 0 ∧ ρ' 16 = vi 0 ∧ L' = [F]) 0 ⟨rfl, rfl, rfl, rfl, rfl⟩ ?_))))))))))))))
  rintro n ρ' I0 L' ⟨rfl, r3, r15, r16, rfl⟩
  rw [← upd_self r16, ← upd_self r15, ← upd_self r3]
  refine jS (jx rfl rfl (jM (jB (jE (WC.exit (WX.thenExit (WX.thenExit (WX.inHit (jA (jB (jS (jb rfl (jl rfl (jM (jF (jS (jf rfl (jM (jR (jU ?_))))))))))))))))))))
  exact jP [] (jr1 rfl (jtI rfl)) ⟨rfl, rfl, rfl⟩
 have hc : stopsCheck l = if stopsGo (decide ((l.length : Int) ≤ 16)) none l = true then 0 else 30 := by
  rw [stopsCheck]
  congr 3
  exact decide_eq_decide.2 ⟨fun h => by omega, fun h => by omega⟩
 rw [hc]
 clear hc
 refine jS (jf rfl (jN (jc rfl (jm (jo rfl) (jm (Val.geq rfl rfl (decide_eq_true (by omega))) ?_)))))
 refine jb rfl (jG (jc rfl (jG (jm (jo rfl) (jG (jm (Val.leq rfl rfl rfl) ?_))))))
 refine jk rfl (jg rfl (jM (jB (jS (jc rfl (jm (jo rfl) (ja rfl (jM (WC.block ?_)))))))))
 generalize decide ((l.length : Int) ≤ 16) = okb
 refine WC.loop (fun n ρ' I' L' => ∃ (k : Nat) (ok : Bool), n = l.length - k ∧ k ≤ l.length ∧ I' = I ∧ ρ' 0 = .slice a1 l.length c1 ∧ ρ' 3 = .bool ok ∧ ρ' 14 = .slice a1 l.length c1 ∧ ρ' 15 = vi l.length ∧ ρ' 16 = vi k ∧ L' = [F] ∧ ok = stopsGo okb none (l.take k))
  l.length ⟨0, okb, rfl, by omega, rfl, rfl, rfl, rfl, rfl, rfl, rfl, rfl⟩ ?_
 rintro n ρ' I0 L' ⟨k, ok, rfl, hk, rfl, r0, r3, r14, r15, r16, rfl, hok⟩
 refine ju5 r16 r15 r14 r3 r0 ?_
 by_cases hkn : k < l.length
 ·obtain ⟨b, off, cap', cs, he, ⟨rfl, hi⟩, hA⟩ := hv.get k hkn
  cases he
  have hsn : stopsGo okb none (l.take (k + 1)) = (ok && decide (Stp.fits ((l.take k).getLast?.or none) l[k])) := by
   rw [List.take_succ_eq_append_getElem hkn, stopsGo_snoc, ← hok]
  generalize hx : l[k] = x at *
  have hgo : ∀ ok' : Bool, ok' = (ok && decide (Stp.fits ((l.take k).getLast?.or none) x)) → ok' = stopsGo okb none (l.take (k + 1)) := fun ok' h => h.trans hsn.symm
  refine jS (jy rfl rfl (jM (jB (jF (jV (jA (jB (WC.block (jS (ja rfl (jm (jZ rfl rfl) (jm (Val.loadI rfl (by assumption) rfl) ?_))))))))))))
  refine WL.alloc rfl (fun _ => ?_)
  refine jW ?_
  refine jf rfl (WL.stA 1 rfl rfl rfl rfl ?_)
  refine jM ?_
  rename_i g5
  cases ok with
  | false =>
   refine j8 999 [1] rfl (jT 0 rfl (Val.moveB rfl) (jT 1 rfl (Val.moveB rfl) (jI 2 rfl (jI 3 rfl (jI 4 rfl (jT 5 rfl (Val.pick rfl) (jT 6 rfl (Val.moveB rfl) (jI 7 rfl (jI 8 rfl (jI 9 rfl (jT 10 rfl (Val.pick rfl) (jT 11 rfl (Val.moveB rfl) (jI 12 rfl (jI 13 rfl (jI 14 rfl (jT 15 rfl (Val.pick rfl) (jT 16 rfl (Val.moveB rfl) (jI 17 rfl (jI 18 rfl (jI 19 rfl (jY 20 rfl (jY 21 rfl (jY 22 rfl (jY 23 rfl (jY 24 rfl (jY 25 rfl (jY 26 rfl (jY 27 rfl (jY 28 rfl (jI 29 rfl (jT 30 rfl (Val.pick rfl) (jT 31 rfl (Val.assignB rfl) (j6 (WX.inNormal (jA (jD (jX rfl rfl (ja rfl (jC ?_)))))))))))))))))))))))))))))))))))))))
   exact WX.conv (fun w h => h.sub [0] rfl) (WX.thenK (WK.round (l.length - (k + 1)) (by omega) ⟨k + 1, false, rfl, by omega, rfl, rfl, rfl, rfl, rfl, rfl, rfl, hgo _ (by rw [Bool.false_and])⟩))
  | true =>
   by_cases p0 : 0 ≤ x.pos
   case neg =>
    refine j8 999 [1] rfl (jT 0 rfl (Val.moveB rfl) (jT 1 rfl (Val.moveB rfl) (jT 2 rfl (jn rfl) (jT 3 rfl (jp 0 rfl rfl rfl) (jT 4 rfl (Val.geq rfl rfl (decide_eq_false (by omega))) ?_)))))
    exact jT 5 rfl (Val.pick rfl) (jT 6 rfl (Val.moveB rfl) (jI 7 rfl (jI 8 rfl (jI 9 rfl (jT 10 rfl (Val.pick rfl) (jT 11 rfl (Val.moveB rfl) (jI 12 rfl (jI 13 rfl (jI 14 rfl (jT 15 rfl (Val.pick rfl) (jT 16 rfl (Val.moveB rfl) (jI 17 rfl (jI 18 rfl (jI 19 rfl (jY 20 rfl (jY 21 rfl (jY 22 rfl (jY 23 rfl (jY 24 rfl (jY 25 rfl (jY 26 rfl (jY 27 rfl (jY 28 rfl (jI 29 rfl (jT 30 rfl (Val.pick rfl) (jT 31 rfl (Val.assignB rfl) (j6 (WX.inNormal (jA (jD (jX rfl rfl (ja rfl (jC (WX.conv (fun w h => h.sub [0] rfl) (WX.thenK (WK.round (l.length - (k + 1)) (by omega) ⟨k + 1, false, rfl, by omega, rfl, rfl, rfl, rfl, rfl, rfl, rfl, hgo _ (by rw [Bool.true_and]; exact (decide_eq_false fun e => p0 e.1).symm)⟩))))))))))))))))))))))))))))))))))))
   by_cases p1 : x.pos ≤ 65536
   case neg =>
    refine j8 999 [1] rfl (jT 0 rfl (Val.moveB rfl) (jT 1 rfl (Val.moveB rfl) (jT 2 rfl (jn rfl) (jT 3 rfl (jp 0 rfl rfl rfl) (jT 4 rfl (Val.geq rfl rfl (decide_eq_true (by omega))) ?_)))))
    refine jT 5 rfl (Val.pick rfl) (jT 6 rfl (Val.moveB rfl) (jT 7 rfl (jn rfl) (jT 8 rfl (jp 0 rfl rfl rfl) (jT 9 rfl (Val.leq rfl rfl (decide_eq_false (by omega))) ?_))))
    exact jT 10 rfl (Val.pick rfl) (jT 11 rfl (Val.moveB rfl) (jI 12 rfl (jI 13 rfl (jI 14 rfl (jT 15 rfl (Val.pick rfl) (jT 16 rfl (Val.moveB rfl) (jI 17 rfl (jI 18 rfl (jI 19 rfl (jY 20 rfl (jY 21 rfl (jY 22 rfl (jY 23 rfl (jY 24 rfl (jY 25 rfl (jY 26 rfl (jY 27 rfl (jY 28 rfl (jI 29 rfl (jT 30 rfl (Val.pick rfl) (jT 31 rfl (Val.assignB rfl) (j6 (WX.inNormal (jA (jD (jX rfl rfl (ja rfl (jC (WX.conv (fun w h => h.sub [0] rfl) (WX.thenK (WK.round (l.length - (k + 1)) (by omega) ⟨k + 1, false, rfl, by omega, rfl, rfl, rfl, rfl, rfl, rfl, rfl, hgo _ (by rw [Bool.true_and]; exact (decide_eq_false fun e => p1 e.2.1).symm)⟩)))))))))))))))))))))))))))))))
   by_cases k0 : k = 0
   ·subst k0
    refine j8 999 [1] rfl (jT 0 rfl (Val.moveB rfl) (jT 1 rfl (Val.moveB rfl) (jT 2 rfl (jn rfl) (jT 3 rfl (jp 0 rfl rfl rfl) (jT 4 rfl (Val.geq rfl rfl (decide_eq_true (by omega))) ?_)))))
    refine jT 5 rfl (Val.pick rfl) (jT 6 rfl (Val.moveB rfl) (jT 7 rfl (jn rfl) (jT 8 rfl (jp 0 rfl rfl rfl) (jT 9 rfl (Val.leq rfl rfl (decide_eq_true (by omega))) ?_))))
    refine jT 10 rfl (Val.pick rfl) (jT 11 rfl (Val.moveB rfl) (jT 12 rfl (jn rfl) (jT 13 rfl (jt 0 rfl rfl rfl) (j5 14 rfl (jG ?_)))))
    refine WL.callE rfl rfl (colRight_ctr x.col _) rfl (fun h => ?_) (fun h => ?_)
    ·skip
     refine jC (j7 [1] rfl (jT 15 rfl (Val.pick rfl) (jT 16 rfl (Val.moveB rfl) (jT 17 rfl (Val.moveI rfl) (jT 18 rfl (Val.eql rfl rfl (beq_iff_eq.2 (by omega))) ?_)))))
     exact jT 19 rfl (Val.moveB rfl) (jI 20 rfl (jI 21 rfl (jI 22 rfl (jI 23 rfl (jI 24 rfl (jI 25 rfl (jI 26 rfl (jI 27 rfl (jI 28 rfl (jT 29 rfl (Val.pick rfl) (jT 30 rfl (Val.pick rfl) (jT 31 rfl (Val.assignB rfl) (j6 (WX.inNormal (jA (jD (jX rfl rfl (ja rfl (jC (WX.conv (fun w h => h.sub [0] rfl) (WX.thenK (WK.round (l.length - (0 + 1)) (by omega) ⟨0 + 1, true, rfl, by omega, rfl, rfl, rfl, rfl, rfl, rfl, rfl, hgo _ (by rw [Bool.true_and]; exact (decide_eq_true ⟨p0, p1, h, fun q e => by cases e⟩).symm)⟩))))))))))))))))))))))
    ·skip
     exact jC (j7 [1] rfl (jT 15 rfl (Val.pick rfl) (jT 16 rfl (Val.moveB rfl) (jI 17 rfl (jI 18 rfl (jI 19 rfl (jY 20 rfl (jY 21 rfl (jY 22 rfl (jY 23 rfl (jY 24 rfl (jY 25 rfl (jY 26 rfl (jY 27 rfl (jY 28 rfl (jI 29 rfl (jT 30 rfl (Val.pick rfl) (jT 31 rfl (Val.assignB rfl) (j6 (WX.inNormal (jA (jD (jX rfl rfl (ja rfl (jC (WX.conv (fun w h => h.sub [0] rfl) (WX.thenK (WK.round (l.length - (0 + 1)) (by omega) ⟨0 + 1, false, rfl, by omega, rfl, rfl, rfl, rfl, rfl, rfl, rfl, hgo _ (by rw [Bool.true_and]; exact (decide_eq_false fun e => h e.2.2.1).symm)⟩))))))))))))))))))))))))))))
   ·obtain ⟨j, rfl⟩ : ∃ j, k = j + 1 := ⟨k - 1, by omega⟩
    obtain ⟨b2, off2, cap2, cs2, he2, ⟨rfl, hi2⟩, hA2⟩ := hv.get j (by omega)
    cases he2
    have hlast : (l.take (j + 1)).getLast? = some l[j] := by rw [List.take_succ_eq_append_getElem (by omega)]; exact List.getLast?_concat
    rw [hlast] at hgo
    generalize l[j] = y at *
    by_cases p2 : y.pos ≤ x.pos
    ·skip
     refine j8 999 [1] rfl (jT 0 rfl (Val.moveB rfl) (jT 1 rfl (Val.moveB rfl) (jT 2 rfl (jn rfl) (jT 3 rfl (jp 0 rfl rfl rfl) (jT 4 rfl (Val.geq rfl rfl (decide_eq_true (by omega))) ?_)))))
     refine jT 5 rfl (Val.pick rfl) (jT 6 rfl (Val.moveB rfl) (jT 7 rfl (jn rfl) (jT 8 rfl (jp 0 rfl rfl rfl) (jT 9 rfl (Val.leq rfl rfl (decide_eq_true (by omega))) ?_))))
     refine jT 10 rfl (Val.pick rfl) (jT 11 rfl (Val.moveB rfl) (jT 12 rfl (jn rfl) (jT 13 rfl (jt 0 rfl rfl rfl) (j5 14 rfl (jG ?_)))))
     refine WL.callE rfl rfl (colRight_ctr x.col _) rfl (fun h => ?_) (fun h => ?_)
     ·skip
      refine jC (j7 [1] rfl (jT 15 rfl (Val.pick rfl) (jT 16 rfl (Val.moveB rfl) (jT 17 rfl (Val.moveI rfl) (jT 18 rfl (Val.eql rfl rfl (beq_eq_false_iff_ne.2 (by omega))) ?_)))))
      refine jT 19 rfl (Val.moveB rfl) (jT 20 rfl (Val.moveS rfl) (jT 21 rfl (Val.moveI rfl) (jT 22 rfl (Val.sub (z := (j : Int)) rfl rfl (by rw [wrap_i64 (by omega) (by omega)]; omega)) ?_)))
      refine jT 23 rfl (jZ rfl rfl) (jT 24 rfl (jn rfl) (jT 25 rfl (Val.loadS rfl (Rd.imm (At.zero (by assumption) rfl))) ?_))
      refine jT 26 rfl (jn rfl) (jT 27 rfl (jp 0 rfl rfl rfl) (jT 28 rfl (Val.leq rfl rfl (decide_eq_true (by omega))) ?_))
      exact jT 29 rfl (Val.pick rfl) (jT 30 rfl (Val.pick rfl) (jT 31 rfl (Val.assignB rfl) (j6 (WX.inNormal (jA (jD (jX rfl rfl (ja rfl (jC (WX.conv (fun w h => h.sub [0] rfl) (WX.thenK (WK.round (l.length - (j + 1 + 1)) (by omega) ⟨j + 1 + 1, true, rfl, by omega, rfl, rfl, rfl, rfl, rfl, rfl, rfl, hgo _ (by rw [Bool.true_and]; exact (decide_eq_true ⟨p0, p1, h, fun q e => by cases e; exact p2⟩).symm)⟩))))))))))))
     ·skip
      exact jC (j7 [1] rfl (jT 15 rfl (Val.pick rfl) (jT 16 rfl (Val.moveB rfl) (jI 17 rfl (jI 18 rfl (jI 19 rfl (jY 20 rfl (jY 21 rfl (jY 22 rfl (jY 23 rfl (jY 24 rfl (jY 25 rfl (jY 26 rfl (jY 27 rfl (jY 28 rfl (jI 29 rfl (jT 30 rfl (Val.pick rfl) (jT 31 rfl (Val.assignB rfl) (j6 (WX.inNormal (jA (jD (jX rfl rfl (ja rfl (jC (WX.conv (fun w h => h.sub [0] rfl) (WX.thenK (WK.round (l.length - (j + 1 + 1)) (by omega) ⟨j + 1 + 1, false, rfl, by omega, rfl, rfl, rfl, rfl, rfl, rfl, rfl, hgo _ (by rw [Bool.true_and]; exact (decide_eq_false fun e => h e.2.2.1).symm)⟩))))))))))))))))))))))))))))
    ·skip
     refine j8 999 [1] rfl (jT 0 rfl (Val.moveB rfl) (jT 1 rfl (Val.moveB rfl) (jT 2 rfl (jn rfl) (jT 3 rfl (jp 0 rfl rfl rfl) (jT 4 rfl (Val.geq rfl rfl (decide_eq_true (by omega))) ?_)))))
     refine jT 5 rfl (Val.pick rfl) (jT 6 rfl (Val.moveB rfl) (jT 7 rfl (jn rfl) (jT 8 rfl (jp 0 rfl rfl rfl) (jT 9 rfl (Val.leq rfl rfl (decide_eq_true (by omega))) ?_))))
     refine jT 10 rfl (Val.pick rfl) (jT 11 rfl (Val.moveB rfl) (jT 12 rfl (jn rfl) (jT 13 rfl (jt 0 rfl rfl rfl) (j5 14 rfl (jG ?_)))))
     refine WL.callE rfl rfl (colRight_ctr x.col _) rfl (fun h => ?_) (fun h => ?_)
     ·skip
      refine jC (j7 [1] rfl (jT 15 rfl (Val.pick rfl) (jT 16 rfl (Val.moveB rfl) (jT 17 rfl (Val.moveI rfl) (jT 18 rfl (Val.eql rfl rfl (beq_eq_false_iff_ne.2 (by omega))) ?_)))))
      refine jT 19 rfl (Val.moveB rfl) (jT 20 rfl (Val.moveS rfl) (jT 21 rfl (Val.moveI rfl) (jT 22 rfl (Val.sub (z := (j : Int)) rfl rfl (by rw [wrap_i64 (by omega) (by omega)]; omega)) ?_)))
      refine jT 23 rfl (jZ rfl rfl) (jT 24 rfl (jn rfl) (jT 25 rfl (Val.loadS rfl (Rd.imm (At.zero (by assumption) rfl))) ?_))
      refine jT 26 rfl (jn rfl) (jT 27 rfl (jp 0 rfl rfl rfl) (jT 28 rfl (Val.leq rfl rfl (decide_eq_false (by omega))) ?_))
      exact jT 29 rfl (Val.pick rfl) (jT 30 rfl (Val.pick rfl) (jT 31 rfl (Val.assignB rfl) (j6 (WX.inNormal (jA (jD (jX rfl rfl (ja rfl (jC (WX.conv (fun w h => h.sub [0] rfl) (WX.thenK (WK.round (l.length - (j + 1 + 1)) (by omega) ⟨j + 1 + 1, false, rfl, by omega, rfl, rfl, rfl, rfl, rfl, rfl, rfl, hgo _ (by rw [Bool.true_and]; exact (decide_eq_false fun e => p2 (e.2.2.2 y rfl)).symm)⟩))))))))))))
     ·skip
      exact jC (j7 [1] rfl (jT 15 rfl (Val.pick rfl) (jT 16 rfl (Val.moveB rfl) (jI 17 rfl (jI 18 rfl (jI 19 rfl (jY 20 rfl (jY 21 rfl (jY 22 rfl (jY 23 rfl (jY 24 rfl (jY 25 rfl (jY 26 rfl (jY 27 rfl (jY 28 rfl (jI 29 rfl (jT 30 rfl (Val.pick rfl) (jT 31 rfl (Val.assignB rfl) (j6 (WX.inNormal (jA (jD (jX rfl rfl (ja rfl (jC (WX.conv (fun w h => h.sub [0] rfl) (WX.thenK (WK.round (l.length - (j + 1 + 1)) (by omega) ⟨j + 1 + 1, false, rfl, by omega, rfl, rfl, rfl, rfl, rfl, rfl, rfl, hgo _ (by rw [Bool.true_and]; exact (decide_eq_false fun e => h e.2.2.1).symm)⟩))))))))))))))))))))))))))))
 ·have : k = l.length := by omega
  subst this
  rw [List.take_length] at hok
  rw [← hok]
  cases ok with
  | false =>
   refine jS (jx rfl rfl (jM (jB (jE (WC.exit (WX.thenExit (WX.thenExit (WX.inHit (jA (jB (jS (jb rfl (jl rfl (jM (jF (jS (jf rfl (jM (jR (jU ?_))))))))))))))))))))
   exact jP [] (jr1 rfl (jtI rfl)) ⟨rfl, rfl, rfl⟩
  | true =>
   refine jS (jx rfl rfl (jM (jB (jE (WC.exit (WX.thenExit (WX.thenExit (WX.inHit (jA (jB (jS (jb rfl (jl rfl (jM (jE (jV (jK (jf rfl (jM (jR ?_))))))))))))))))))))
   exact jP [] (jr1 rfl (jtI rfl)) ⟨rfl, rfl, rfl⟩
theorem isum_app : ∀ (a b : List Int), isum (a ++ b) = isum a + isum b
 | [], b => by simp [isum]
 | x :: a, b => by rw [List.cons_append, isum, isum, isum_app a b]; omega
theorem sum_ctr (l : List Int) (ph : Int) (v : Value) (I : Mem) (hv : LsAt Int.rep I l v) (hl : l.length ≤ 8) (hd : ∀ n ∈ l, dashPart n) : Ctr Tryz.prog 96 [.agg #[v, vi ph]] I [] (Still I fun r => r = vi (isum l)) := by
 obtain ⟨a1, c1, rfl⟩ := hv.sl
 refine Ctr.intro Tryz.func96 rfl rfl rfl fun E F => ?_
 refine jS (WL.boxA rfl rfl (fun _ => ?_))
 refine jW ?_
 refine jf rfl (jN (jf rfl (jM (jB (jS (jm (jn rfl) (jm (jp 1 rfl rfl rfl) (jm (jo rfl) (ja rfl (jM (WC.block ?_)))))))))))
 rename_i g
 refine WC.loop (fun n ρ' I' L' => ∃ k : Nat, n = l.length - k ∧ k ≤ l.length ∧ I' = I ∧ ρ' 3 = vi (isum (l.take k)) ∧ ρ' 7 = .slice a1 l.length c1 ∧ ρ' 8 = vi l.length ∧ ρ' 9 = vi k ∧ L' = [F, box g 33 [.slice a1 l.length c1, vi ph]] ∧ 0 ≤ isum (l.take k) ∧ isum (l.take k) ≤ 1048576 * (k : Int))
  l.length ⟨0, rfl, by omega, rfl, rfl, rfl, rfl, rfl, rfl, by simp [isum], by simp [isum]⟩ ?_
 rintro n ρ' I0 L' ⟨k, rfl, hk, rfl, r3, r7, r8, r9, rfl, s1, s2⟩
 refine ju4 r9 r8 r7 r3 ?_
 by_cases hkn : k < l.length
 ·obtain ⟨b, off, cap', cs, he, ⟨rfl, hi⟩, hA⟩ := hv.get k hkn
  cases he
  have hsn : isum (l.take (k + 1)) = isum (l.take k) + l[k] := by rw [List.take_succ_eq_append_getElem hkn, isum_app]; simp [isum]
  obtain ⟨d1, d2⟩ := hd l[k] (List.getElem_mem hkn)
  refine jS (jy rfl rfl (jM (jB (jF (jV (jA (jB (WC.block (jS (jm (jZ rfl rfl) (jm (Val.loadS rfl (Rd.imm (by assumption))) ?_)))))))))))
  exact jf rfl (jM (jD (ja rfl (ja rfl (jX rfl rfl (jf rfl (jC (WX.inNormal (jA (jD (jX rfl rfl (ja rfl (jC (WX.thenK (WK.round (l.length - (k + 1)) (by omega) ⟨k + 1, rfl, by omega, rfl, by rw [hsn]; rfl, rfl, rfl, rfl, rfl, by omega, by omega⟩)))))))))))))))
 ·have : k = l.length := by omega
  subst this
  refine jS (jx rfl rfl (jM (jB (jE (WC.exit (WX.thenExit (WX.thenExit (WX.inHit (jK (ja rfl (jf rfl (jM (jR ?_)))))))))))))
  refine jP [] (jr1 rfl (jtI rfl)) ?_
  rw [List.take_length]
  exact ⟨rfl, rfl, rfl⟩
theorem dash_ctr (l : List Int) (ph : Int) (v : Value) (I : Mem) (hv : LsAt Int.rep I l v) : Ctr Tryz.prog 55 [.agg #[v, vi ph]] I [] (Still I fun r => r = vi (dashCheck l ph)) := by
 obtain ⟨a1, c1, rfl⟩ := hv.sl
 refine Ctr.intro Tryz.func55 rfl rfl rfl fun E F => ?_
 by_cases h0 : l.length = 0
 ·by_cases hp : ph = 0
  ·skip
   refine jS (WL.boxA rfl rfl (fun _ => ?_))
   refine jW ?_
   refine jf rfl (jM (jB (jS (jm (jn rfl) (jm (jp 1 rfl rfl rfl) (jm (jo rfl) (jw rfl rfl (jb rfl (jG (jm (jn rfl) (jG (jm (jp 1 rfl rfl rfl) (jG (jw rfl rfl (jk rfl (jM (jF (jS (jf rfl (jM (jR (jU ?_))))))))))))))))))))))
   exact jP [] (jr1 rfl (jtI rfl)) ⟨rfl, rfl, by rw [dashCheck, if_pos ⟨h0, hp⟩]⟩
  ·skip
   refine jS (WL.boxA rfl rfl (fun _ => ?_))
   refine jW ?_
   refine jf rfl (jM (jB (jS (jm (jn rfl) (jm (jp 1 rfl rfl rfl) (jm (jo rfl) (jw rfl rfl (jb rfl (jG (jm (jn rfl) (jG (jm (jp 1 rfl rfl rfl) (jG (jv rfl rfl (jk rfl (jM (jE (jV (jA (jB (jS (jm (jn rfl) (jm (jp 1 rfl rfl rfl) (jm (jo rfl) (jw rfl rfl (jb rfl (jH (jH (jH (jH (jk rfl (jb rfl (jH (jH (jH (jH (jH (jk rfl (jM ?_)))))))))))))))))))))))))))))))))))))))
   refine jF (jS (jf rfl (jM (jR (jU ?_)))))
   exact jP [] (jr1 rfl (jtI rfl)) ⟨rfl, rfl, by rw [dashCheck, if_neg (fun e => hp e.2), if_pos (.inl h0)]⟩
 by_cases h8 : 8 < l.length
 ·skip
  refine jS (WL.boxA rfl rfl (fun _ => ?_))
  refine jW ?_
  refine jf rfl (jM (jB (jS (jm (jn rfl) (jm (jp 1 rfl rfl rfl) (jm (jo rfl) (jv rfl rfl (jb rfl (jH (jH (jH (jk rfl (jM (jE (jV (jA (jB (jS (jm (jn rfl) (jm (jp 1 rfl rfl rfl) (jm (jo rfl) (jv rfl rfl (jb rfl (jG (jm (jn rfl) (jG (jm (jp 1 rfl rfl rfl) (jG (jm (jo rfl) (jG (jO rfl rfl (jk rfl (jb rfl (jH (jH (jH (jH (jH (jk rfl ?_)))))))))))))))))))))))))))))))))))))))
  refine jM (jF (jS (jf rfl (jM (jR (jU ?_))))))
  exact jP [] (jr1 rfl (jtI rfl)) ⟨rfl, rfl, by rw [dashCheck, if_neg (fun e => h0 e.1), if_pos (.inr (.inl h8))]⟩
 refine jS (WL.boxA rfl rfl (fun _ => ?_))
 refine jW ?_
 refine jf rfl (jM (jB (jS (jm (jn rfl) (jm (jp 1 rfl rfl rfl) (jm (jo rfl) (jv rfl rfl (jb rfl (jH (jH (jH (jk rfl (jM (jE (jV (jA (jB (jS (jm (jn rfl) (jm (jp 1 rfl rfl rfl) (jm (jo rfl) (jv rfl rfl (jb rfl (jG (jm (jn rfl) (jG (jm (jp 1 rfl rfl rfl) (jG (jm (jo rfl) (jG (jL rfl rfl (jk rfl (jb rfl (jG (jm (jn rfl) (jG (jm (jp 1 rfl rfl rfl) (jG (jm (jo rfl) ?_)))))))))))))))))))))))))))))))))))))))
 refine jG ?_
 rename_i g
 refine jm (Val.rem rfl rfl (by decide) (show Int.tmod ((l.length : Nat) : Int) 2 = ((l.length % 2 : Nat) : Int) from rfl)) ?_
 by_cases hm : l.length % 2 = 0
 case neg =>
  refine jG (jJ rfl rfl (jk rfl (jM (jF (jS (jf rfl (jM (jR (jU ?_)))))))))
  exact jP [] (jr1 rfl (jtI rfl)) ⟨rfl, rfl, by rw [dashCheck, if_neg (fun e => h0 e.1), if_pos (.inr (.inr hm))]⟩
 have hc : dashCheck l ph = if ¬ ∀ n ∈ l, dashPart n then 30 else if ph < 0 ∨ isum l ≤ ph then 30 else 0 := by
  rw [dashCheck, if_neg (fun e => h0 e.1), if_neg (by omega)]
 rw [hc]
 clear hc
 refine jG (jz rfl rfl (jk rfl (jM (jE (jV (jA (jB (jS (jm (jn rfl) (jm (jp 1 rfl rfl rfl) (jm (jo rfl) (ja rfl (jM (WC.block ?_))))))))))))))
 refine WC.loop (fun n ρ' I' L' => ∃ k : Nat, n = l.length - k ∧ k ≤ l.length ∧ I' = I ∧ ρ' 1 = ptr g ∧ ρ' 32 = .slice a1 l.length c1 ∧ ρ' 33 = vi l.length ∧ ρ' 34 = vi k ∧ L' = [F, box g 33 [.slice a1 l.length c1, vi ph]] ∧ ∀ n ∈ l.take k, dashPart n)
  l.length ⟨0, rfl, by omega, rfl, rfl, rfl, rfl, rfl, rfl, fun x hx => by simp at hx⟩ ?_
 rintro n ρ' I0 L' ⟨k, rfl, hk, rfl, r1, r32, r33, r34, rfl, hall⟩
 refine ju4 r34 r33 r32 r1 ?_
 by_cases hkn : k < l.length
 ·obtain ⟨b, off, cap', cs, he, ⟨rfl, hi⟩, hA⟩ := hv.get k hkn
  cases he
  by_cases hd : dashPart l[k]
  ·have hd' : 1 ≤ l[k] ∧ l[k] ≤ 1048576 := hd
   have hsn : ∀ n ∈ l.take (k + 1), dashPart n := by
    rw [List.take_succ_eq_append_getElem hkn]
    intro n hn
    rcases List.mem_append.1 hn with hn | hn
    ·exact hall n hn
    ·rw [List.mem_singleton.1 hn]; exact hd
   generalize l[k] = x at *
   refine jS (jy rfl rfl (jM (jB (jF (jV (jA (jB (WC.block (jS (jm (jZ rfl rfl) (jm (Val.loadS rfl (Rd.imm (by assumption))) ?_)))))))))))
   exact jf rfl (jN (ja rfl (jx rfl rfl (jb rfl (jG (ja rfl (jG (jL rfl rfl (jk rfl (jM (jE (jV (WX.inNormal (jA (jD (jX rfl rfl (ja rfl (jC (WX.thenK (WK.round (l.length - (k + 1)) (by omega) ⟨k + 1, rfl, by omega, rfl, rfl, rfl, rfl, rfl, rfl, hsn⟩))))))))))))))))))))
  ·have hd' : ¬ (1 ≤ l[k] ∧ l[k] ≤ 1048576) := hd
   rw [if_pos (fun e => hd (e _ (List.getElem_mem hkn)))]
   generalize l[k] = x at *
   refine jS (jy rfl rfl (jM (jB (jF (jV (jA (jB (WC.block (jS (jm (jZ rfl rfl) (jm (Val.loadS rfl (Rd.imm (by assumption))) ?_)))))))))))
   refine jf rfl (jN (ja rfl ?_))
   refine WL.ltI rfl rfl rfl (fun h => ?_) (fun h => ?_)
   refine jb rfl (jH (jH (jk rfl (jM (jF (jS (jf rfl (jM (jR (WX.inRet (jU (jU (WX.inRet (jU ?_))))))))))))))
   rotate_left
   refine jb rfl (jG (ja rfl (jG (jO rfl rfl (jk rfl (jM (jF (jS (jf rfl (jM (jR (WX.inRet (jU (jU (WX.inRet (jU ?_))))))))))))))))
   rotate_left
   all_goals
    refine jP [] (jr1 rfl (jtI rfl)) ?_
   all_goals exact ⟨rfl, rfl, rfl⟩
 ·have : k = l.length := by omega
  subst this
  rw [List.take_length] at hall
  rw [if_neg (fun e => e hall)]
  refine jS (jx rfl rfl (jM (jB (jE (WC.exit (WX.thenExit (WX.thenExit (WX.inHit (jA (jB (jB ?_)))))))))))
  by_cases hp : ph < 0
  ·rw [if_pos (.inl hp)]
   refine j8 999 [1] rfl (jT 0 rfl (jn rfl) (jT 1 rfl (jp 0 rfl rfl rfl) (jT 2 rfl (Val.lss rfl rfl (decide_eq_true (by omega))) ?_)))
   refine jT 3 rfl (Val.moveB rfl) (jI 4 rfl (jI 5 rfl (jI 6 rfl (jI 7 rfl (jI 8 rfl (jT 9 rfl (Val.pick rfl) (j6 (jA (jF (jS (jf rfl (jM (jR (jU ?_))))))))))))))
   exact jP [] (jr1 rfl (jtI rfl)) ⟨rfl, rfl, rfl⟩
  ·skip
   refine j8 999 [1] rfl (jT 0 rfl (jn rfl) (jT 1 rfl (jp 0 rfl rfl rfl) (jT 2 rfl (Val.lss rfl rfl (decide_eq_false (by omega))) ?_)))
   refine jT 3 rfl (Val.moveB rfl) (jT 4 rfl (jn rfl) (jT 5 rfl (jp 0 rfl rfl rfl) (jT 6 rfl (jt 0 rfl rfl rfl) (j5 7 rfl (jG (WL.callS rfl rfl (sum_ctr l ph _ _ hv (by omega) hall) rfl ?_))))))
   rintro _ rfl
   refine jC (j7 [1] rfl ?_)
   by_cases hq : isum l ≤ ph
   ·rw [if_pos (.inr hq)]
    refine jT 8 rfl (Val.geq rfl rfl (decide_eq_true (by omega))) ?_
    refine jT 9 rfl (Val.pick rfl) (j6 (jA (jF (jS (jf rfl (jM (jR (jU ?_))))))))
    exact jP [] (jr1 rfl (jtI rfl)) ⟨rfl, rfl, rfl⟩
   ·rw [if_neg (by omega)]
    refine jT 8 rfl (Val.geq rfl rfl (decide_eq_false (by omega))) ?_
    refine jT 9 rfl (Val.pick rfl) (j6 (jA (jE (jV (jK (jf rfl (jM (jR ?_))))))))
    exact jP [] (jr1 rfl (jtI rfl)) ⟨rfl, rfl, rfl⟩
theorem ptz (p : Pt) : p = Pt.z ↔ p.cs = [vi 0, vi 0] := ⟨fun h => by rw [h], fun h => Pt.inj h⟩
theorem colz (c : Col) : c = Col.z ↔ c.cs = [.int .u8 0, .int .u8 0, .int .u8 0, .int .u8 0] := ⟨fun h => by rw [h]; rfl, fun h => Col.inj (h.trans rfl)⟩
theorem pnt_ctr (p : Pnt) (t : Value) (I : Mem) (hp : p.at_ I t) : Ctr Tryz.prog 54 [.agg (p.cs t).toArray] I [] (Still I fun r => r = vi p.check) := by
 have hst := hp.stops
 obtain ⟨a1, c1, rfl⟩ := hp.sl
 clear hp
 obtain ⟨kd, cl, fr, to_, st⟩ := p
 dsimp only at hst
 dsimp only [Pnt.cs]
 refine Ctr.intro Tryz.func54 rfl rfl rfl fun E F => ?_
 by_cases k0 : kd < 0
 ·skip
  refine jS (WL.boxA rfl rfl (fun _ => ?_))
  refine jW ?_
  refine jf rfl (jN (jm (jn rfl) (jm (jp 1 rfl rfl rfl) (jv rfl rfl (jb rfl (jG (jm (jn rfl) (jG (jm (jp 1 rfl rfl rfl) (jG (jv rfl rfl (jk rfl (jg rfl (jM (jB (WC.block (jS (jm (jn rfl) (jm (jp 1 rfl rfl rfl) (jy rfl rfl (jb rfl (jH (jH (jH (jk rfl (jg rfl (jM (jF (jS (jf rfl (jM (jR (WX.inRet (jU ?_))))))))))))))))))))))))))))))))))
  exact jP [] (jr1 rfl (jtI rfl)) ⟨rfl, rfl, by rw [Pnt.check, if_pos (.inl k0)]⟩
 by_cases k3 : 3 < kd
 ·skip
  refine jS (WL.boxA rfl rfl (fun _ => ?_))
  refine jW ?_
  refine jf rfl (jN (jm (jn rfl) (jm (jp 1 rfl rfl rfl) (jv rfl rfl (jb rfl (jG (jm (jn rfl) (jG (jm (jp 1 rfl rfl rfl) (jG (jv rfl rfl (jk rfl (jg rfl (jM (jB (WC.block (jS (jm (jn rfl) (jm (jp 1 rfl rfl rfl) (jx rfl rfl (jb rfl (jG (jm (jn rfl) (jG (jm (jp 1 rfl rfl rfl) (jG (jO rfl rfl (jk rfl (jg rfl (jM (jF (jS (jf rfl (jM (jR (WX.inRet (jU ?_)))))))))))))))))))))))))))))))))))))
  exact jP [] (jr1 rfl (jtI rfl)) ⟨rfl, rfl, by rw [Pnt.check, if_pos (.inr k3)]⟩
 have hc : (Pnt.mk kd cl fr to_ st).check = if ¬ cl.right ∨ (kd ≠ 1 ∧ cl ≠ Col.z) then 30
   else if ¬ (kd = 2 ∨ kd = 3) ∧ (fr ≠ Pt.z ∨ to_ ≠ Pt.z ∨ 0 < st.length) then 30
   else if (kd = 2 ∨ kd = 3) ∧ (¬ fr.near ∨ ¬ to_.near ∨ fr = to_) then 30
   else if (kd = 2 ∨ kd = 3) then stopsCheck st else 0 := by rw [Pnt.check, if_neg (by show ¬ (kd < 0 ∨ 3 < kd); omega)]; rfl
 rw [hc]
 clear hc
 have hk : kd = 0 ∨ kd = 1 ∨ kd = 2 ∨ kd = 3 := by omega
 rcases hk with rfl | rfl | rfl | rfl
 ·skip
  refine jS (WL.boxA rfl rfl (fun _ => ?_))
  refine jW ?_
  refine jf rfl (jN (jm (jn rfl) (jm (jp 1 rfl rfl rfl) (jv rfl rfl (jb rfl (jG (jm (jn rfl) (jG (jm (jp 1 rfl rfl rfl) (jG (jv rfl rfl (jk rfl (jg rfl (jM (jB (WC.block (jS (jm (jn rfl) (jm (jp 1 rfl rfl rfl) (jx rfl rfl (jb rfl (jG (jm (jn rfl) (jG (jm (jp 1 rfl rfl rfl) (jG (jL rfl rfl (jk rfl (jg rfl (jM (jE (jS (jm (jn rfl) (jm (jt 1 rfl rfl rfl) ?_))))))))))))))))))))))))))))))))))
  refine WL.callE rfl rfl (colRight_ctr cl _) rfl (fun hr => ?_) (fun hr => ?_)
  case refine_2 =>
   refine jl rfl (jb rfl (jH (jH (jH (jH (WL.gU rfl rfl rfl ?_))))))
   refine WL.gU rfl rfl rfl ?_
   refine WL.gU rfl rfl rfl ?_
   refine WL.gU rfl rfl rfl ?_
   refine jH (jk rfl (jg rfl (jM (jF (jS (jf rfl (jM (jR (WX.inRet (jU ?_))))))))))
   exact jP [] (jr1 rfl (jtI rfl)) ⟨rfl, rfl, by rw [if_pos (.inl hr)]⟩
  by_cases hz : cl = Col.z
  case neg =>
   have hz' : cl.cs ≠ [.int .u8 0, .int .u8 0, .int .u8 0, .int .u8 0] := fun e => hz ((colz cl).2 e)
   refine jl rfl (jb rfl (jG (jm (jn rfl) (jG (jm (jp 1 rfl rfl rfl) (jG (jJ rfl rfl (jG (jb rfl (jG (jm (jn rfl) (jG (jm (jt 1 rfl rfl rfl) (jG (jm (Val.build0) ?_)))))))))))))))
   refine jG (jm (Val.neqD rfl rfl rfl rfl (by assumption)) ?_)
   refine jG (jk rfl (jk rfl (jg rfl (jM (jF (jS (jf rfl (jM (jR (WX.inRet (jU ?_)))))))))))
   exact jP [] (jr1 rfl (jtI rfl)) ⟨rfl, rfl, by rw [if_pos (.inr ⟨by decide, hz⟩)]⟩
  subst hz
  rw [if_neg (fun e => e.elim (fun e => e hr) fun e => e.2 rfl)]
  by_cases hfr : fr = Pt.z
  case neg =>
   have h' : fr.cs ≠ [vi 0, vi 0] := fun e => hfr ((ptz fr).2 e)
   refine jl rfl (jb rfl (jG (jm (jn rfl) (jG (jm (jp 1 rfl rfl rfl) (jG (jJ rfl rfl (jG (jb rfl (jG (jm (jn rfl) (jG (jm (jt 1 rfl rfl rfl) (jG (jm (Val.build0) ?_)))))))))))))))
   refine jG (jm (Val.neqSame rfl rfl rfl) ?_)
   refine jG (jk rfl (jk rfl (jg rfl (jM (jE (jS (jb rfl (jl rfl (jb rfl (jG (jm (jn rfl) (jG (jm (jt 1 rfl rfl rfl) (jG (jm (Val.build0) ?_)))))))))))))))
   refine jG (jm (Val.neqD rfl rfl rfl rfl (by assumption)) ?_)
   refine jG (jb rfl (jH (jH (jH (jH (jG (jk rfl (jG (jb rfl (jH (jH (jH (jH (jG (jk rfl (jk rfl (jg rfl (jM (jF (jS (jf rfl (jM (jR (WX.inRet (jU ?_)))))))))))))))))))))))))
   exact jP [] (jr1 rfl (jtI rfl)) ⟨rfl, rfl, by rw [if_pos ⟨by decide, .inl hfr⟩]⟩
  subst hfr
  by_cases hto_ : to_ = Pt.z
  case neg =>
   have h' : to_.cs ≠ [vi 0, vi 0] := fun e => hto_ ((ptz to_).2 e)
   refine jl rfl (jb rfl (jG (jm (jn rfl) (jG (jm (jp 1 rfl rfl rfl) (jG (jJ rfl rfl (jG (jb rfl (jG (jm (jn rfl) (jG (jm (jt 1 rfl rfl rfl) (jG (jm (Val.build0) ?_)))))))))))))))
   refine jG (jm (Val.neqSame rfl rfl rfl) ?_)
   refine jG (jk rfl (jk rfl (jg rfl (jM (jE (jS (jb rfl (jl rfl (jb rfl (jG (jm (jn rfl) (jG (jm (jt 1 rfl rfl rfl) (jG (jm (Val.build0) ?_)))))))))))))))
   refine jG (jm (Val.neqSame rfl rfl rfl) ?_)
   refine jG (jb rfl (jG (jm (jn rfl) (jG (jm (jt 1 rfl rfl rfl) (jG (jm (Val.build0) ?_)))))))
   refine jG (jm (Val.neqD rfl rfl rfl rfl (by assumption)) ?_)
   refine jG (jk rfl (jG (jb rfl (jH (jH (jH (jH (jG (jk rfl (jk rfl (jg rfl (jM (jF (jS (jf rfl (jM (jR (WX.inRet (jU ?_)))))))))))))))))))
   exact jP [] (jr1 rfl (jtI rfl)) ⟨rfl, rfl, by rw [if_pos ⟨by decide, .inr (.inl hto_)⟩]⟩
  subst hto_
  by_cases hl : 0 < st.length
  case pos =>
   refine jl rfl (jb rfl (jG (jm (jn rfl) (jG (jm (jp 1 rfl rfl rfl) (jG (jJ rfl rfl (jG (jb rfl (jG (jm (jn rfl) (jG (jm (jt 1 rfl rfl rfl) (jG (jm (Val.build0) ?_)))))))))))))))
   refine jG (jm (Val.neqSame rfl rfl rfl) ?_)
   refine jG (jk rfl (jk rfl (jg rfl (jM (jE (jS (jb rfl (jl rfl (jb rfl (jG (jm (jn rfl) (jG (jm (jt 1 rfl rfl rfl) (jG (jm (Val.build0) ?_)))))))))))))))
   refine jG (jm (Val.neqSame rfl rfl rfl) ?_)
   refine jG (jb rfl (jG (jm (jn rfl) (jG (jm (jt 1 rfl rfl rfl) (jG (jm (Val.build0) ?_)))))))
   refine jG (jm (Val.neqSame rfl rfl rfl) ?_)
   refine jG (jk rfl (jG (jb rfl (jG (jm (jn rfl) (jG (jm (jp 1 rfl rfl rfl) (jG (jm (jo rfl) (jG (jO rfl rfl (jG (jk rfl (jk rfl (jg rfl (jM (jF (jS (jf rfl (jM (jR (WX.inRet (jU ?_)))))))))))))))))))))))
   exact jP [] (jr1 rfl (jtI rfl)) ⟨rfl, rfl, by rw [if_pos ⟨by decide, .inr (.inr hl)⟩]⟩
  rw [if_neg (fun e => e.2.elim (fun e => e rfl) fun e => e.elim (fun e => e rfl) hl), if_neg (fun e => absurd e.1 (by decide)), if_neg (by decide)]
  refine jl rfl (jb rfl (jG (jm (jn rfl) (jG (jm (jp 1 rfl rfl rfl) (jG (jJ rfl rfl (jG (jb rfl (jG (jm (jn rfl) (jG (jm (jt 1 rfl rfl rfl) (jG (jm (Val.build0) ?_)))))))))))))))
  refine jG (jm (Val.neqSame rfl rfl rfl) ?_)
  refine jG (jk rfl (jk rfl (jg rfl (jM (jE (jS (jb rfl (jl rfl (jb rfl (jG (jm (jn rfl) (jG (jm (jt 1 rfl rfl rfl) (jG (jm (Val.build0) ?_)))))))))))))))
  refine jG (jm (Val.neqSame rfl rfl rfl) ?_)
  refine jG (jb rfl (jG (jm (jn rfl) (jG (jm (jt 1 rfl rfl rfl) (jG (jm (Val.build0) ?_)))))))
  refine jG (jm (Val.neqSame rfl rfl rfl) ?_)
  refine jG (jk rfl (jG (jb rfl (jG (jm (jn rfl) (jG (jm (jp 1 rfl rfl rfl) (jG (jm (jo rfl) (jG (jL rfl rfl (jG (jk rfl (jk rfl (jg rfl (jM (jE (jS (jb rfl (jb rfl (jH (jH (jH (jH (jH (WL.gU rfl rfl rfl ?_))))))))))))))))))))))))))
  refine WL.gU rfl rfl rfl ?_
  refine WL.gU rfl rfl rfl ?_
  refine WL.gU rfl rfl rfl ?_
  refine jH (jH (WL.gU rfl rfl rfl ?_))
  refine WL.gU rfl rfl rfl ?_
  refine WL.gU rfl rfl rfl ?_
  refine WL.gU rfl rfl rfl ?_
  refine WL.gU rfl rfl rfl ?_
  refine jH (jk rfl (jg rfl (jM (jE (jS (jb rfl (jg rfl (jM (jE (jV (WX.inNormal (jK (jf rfl (jM (jR ?_)))))))))))))))
  exact jP [] (jr1 rfl (jtI rfl)) ⟨rfl, rfl, rfl⟩
 ·skip
  refine jS (WL.boxA rfl rfl (fun _ => ?_))
  refine jW ?_
  refine jf rfl (jN (jm (jn rfl) (jm (jp 1 rfl rfl rfl) (jv rfl rfl (jb rfl (jG (jm (jn rfl) (jG (jm (jp 1 rfl rfl rfl) (jG (jv rfl rfl (jk rfl (jg rfl (jM (jB (WC.block (jS (jm (jn rfl) (jm (jp 1 rfl rfl rfl) (jx rfl rfl (jb rfl (jG (jm (jn rfl) (jG (jm (jp 1 rfl rfl rfl) (jG (jL rfl rfl (jk rfl (jg rfl (jM (jE (jS (jm (jn rfl) (jm (jt 1 rfl rfl rfl) ?_))))))))))))))))))))))))))))))))))
  refine WL.callE rfl rfl (colRight_ctr cl _) rfl (fun hr => ?_) (fun hr => ?_)
  case refine_2 =>
   refine jl rfl (jb rfl (jH (jH (jH (jH (WL.gU rfl rfl rfl ?_))))))
   refine WL.gU rfl rfl rfl ?_
   refine WL.gU rfl rfl rfl ?_
   refine WL.gU rfl rfl rfl ?_
   refine jH (jk rfl (jg rfl (jM (jF (jS (jf rfl (jM (jR (WX.inRet (jU ?_))))))))))
   exact jP [] (jr1 rfl (jtI rfl)) ⟨rfl, rfl, by rw [if_pos (.inl hr)]⟩
  rw [if_neg (fun e => e.elim (fun e => e hr) fun e => e.1 rfl)]
  by_cases hfr : fr = Pt.z
  case neg =>
   have h' : fr.cs ≠ [vi 0, vi 0] := fun e => hfr ((ptz fr).2 e)
   refine jl rfl (jb rfl (jG (jm (jn rfl) (jG (jm (jp 1 rfl rfl rfl) (jG (jz rfl rfl (jG (jb rfl (jH (jH (jH (jH (jG (jk rfl (jk rfl (jg rfl (jM (jE (jS (jb rfl (jl rfl (jb rfl (jG (jm (jn rfl) (jG (jm (jt 1 rfl rfl rfl) (jG (jm (Val.build0) ?_)))))))))))))))))))))))))))))
   refine jG (jm (Val.neqD rfl rfl rfl rfl (by assumption)) ?_)
   refine jG (jb rfl (jH (jH (jH (jH (jG (jk rfl (jG (jb rfl (jH (jH (jH (jH (jG (jk rfl (jk rfl (jg rfl (jM (jF (jS (jf rfl (jM (jR (WX.inRet (jU ?_)))))))))))))))))))))))))
   exact jP [] (jr1 rfl (jtI rfl)) ⟨rfl, rfl, by rw [if_pos ⟨by decide, .inl hfr⟩]⟩
  subst hfr
  by_cases hto_ : to_ = Pt.z
  case neg =>
   have h' : to_.cs ≠ [vi 0, vi 0] := fun e => hto_ ((ptz to_).2 e)
   refine jl rfl (jb rfl (jG (jm (jn rfl) (jG (jm (jp 1 rfl rfl rfl) (jG (jz rfl rfl (jG (jb rfl (jH (jH (jH (jH (jG (jk rfl (jk rfl (jg rfl (jM (jE (jS (jb rfl (jl rfl (jb rfl (jG (jm (jn rfl) (jG (jm (jt 1 rfl rfl rfl) (jG (jm (Val.build0) ?_)))))))))))))))))))))))))))))
   refine jG (jm (Val.neqSame rfl rfl rfl) ?_)
   refine jG (jb rfl (jG (jm (jn rfl) (jG (jm (jt 1 rfl rfl rfl) (jG (jm (Val.build0) ?_)))))))
   refine jG (jm (Val.neqD rfl rfl rfl rfl (by assumption)) ?_)
   refine jG (jk rfl (jG (jb rfl (jH (jH (jH (jH (jG (jk rfl (jk rfl (jg rfl (jM (jF (jS (jf rfl (jM (jR (WX.inRet (jU ?_)))))))))))))))))))
   exact jP [] (jr1 rfl (jtI rfl)) ⟨rfl, rfl, by rw [if_pos ⟨by decide, .inr (.inl hto_)⟩]⟩
  subst hto_
  by_cases hl : 0 < st.length
  case pos =>
   refine jl rfl (jb rfl (jG (jm (jn rfl) (jG (jm (jp 1 rfl rfl rfl) (jG (jz rfl rfl (jG (jb rfl (jH (jH (jH (jH (jG (jk rfl (jk rfl (jg rfl (jM (jE (jS (jb rfl (jl rfl (jb rfl (jG (jm (jn rfl) (jG (jm (jt 1 rfl rfl rfl) (jG (jm (Val.build0) ?_)))))))))))))))))))))))))))))
   refine jG (jm (Val.neqSame rfl rfl rfl) ?_)
   refine jG (jb rfl (jG (jm (jn rfl) (jG (jm (jt 1 rfl rfl rfl) (jG (jm (Val.build0) ?_)))))))
   refine jG (jm (Val.neqSame rfl rfl rfl) ?_)
   refine jG (jk rfl (jG (jb rfl (jG (jm (jn rfl) (jG (jm (jp 1 rfl rfl rfl) (jG (jm (jo rfl) (jG (jO rfl rfl (jG (jk rfl (jk rfl (jg rfl (jM (jF (jS (jf rfl (jM (jR (WX.inRet (jU ?_)))))))))))))))))))))))
   exact jP [] (jr1 rfl (jtI rfl)) ⟨rfl, rfl, by rw [if_pos ⟨by decide, .inr (.inr hl)⟩]⟩
  rw [if_neg (fun e => e.2.elim (fun e => e rfl) fun e => e.elim (fun e => e rfl) hl), if_neg (fun e => absurd e.1 (by decide)), if_neg (by decide)]
  refine jl rfl (jb rfl (jG (jm (jn rfl) (jG (jm (jp 1 rfl rfl rfl) (jG (jz rfl rfl (jG (jb rfl (jH (jH (jH (jH (jG (jk rfl (jk rfl (jg rfl (jM (jE (jS (jb rfl (jl rfl (jb rfl (jG (jm (jn rfl) (jG (jm (jt 1 rfl rfl rfl) (jG (jm (Val.build0) ?_)))))))))))))))))))))))))))))
  refine jG (jm (Val.neqSame rfl rfl rfl) ?_)
  refine jG (jb rfl (jG (jm (jn rfl) (jG (jm (jt 1 rfl rfl rfl) (jG (jm (Val.build0) ?_)))))))
  refine jG (jm (Val.neqSame rfl rfl rfl) ?_)
  refine jG (jk rfl (jG (jb rfl (jG (jm (jn rfl) (jG (jm (jp 1 rfl rfl rfl) (jG (jm (jo rfl) (jG (jL rfl rfl (jG (jk rfl (jk rfl (jg rfl (jM (jE (jS (jb rfl (jb rfl (jH (jH (jH (jH (jH (WL.gU rfl rfl rfl ?_))))))))))))))))))))))))))
  refine WL.gU rfl rfl rfl ?_
  refine WL.gU rfl rfl rfl ?_
  refine WL.gU rfl rfl rfl ?_
  refine jH (jH (WL.gU rfl rfl rfl ?_))
  refine WL.gU rfl rfl rfl ?_
  refine WL.gU rfl rfl rfl ?_
  refine WL.gU rfl rfl rfl ?_
  refine WL.gU rfl rfl rfl ?_
  refine jH (jk rfl (jg rfl (jM (jE (jS (jb rfl (jg rfl (jM (jE (jV (WX.inNormal (jK (jf rfl (jM (jR ?_)))))))))))))))
  exact jP [] (jr1 rfl (jtI rfl)) ⟨rfl, rfl, rfl⟩
 ·skip
  refine jS (WL.boxA rfl rfl (fun _ => ?_))
  refine jW ?_
  refine jf rfl (jN (jm (jn rfl) (jm (jp 1 rfl rfl rfl) (jw rfl rfl (jb rfl (jH (jH (jH (jk rfl (jg rfl (jM (jB (WC.block (jS (jm (jn rfl) (jm (jp 1 rfl rfl rfl) (jx rfl rfl (jb rfl (jG (jm (jn rfl) (jG (jm (jp 1 rfl rfl rfl) (jG (jL rfl rfl (jk rfl (jg rfl (jM (jE (jS (jm (jn rfl) (jm (jt 1 rfl rfl rfl) ?_)))))))))))))))))))))))))))))))
  refine WL.callE rfl rfl (colRight_ctr cl _) rfl (fun hr => ?_) (fun hr => ?_)
  case refine_2 =>
   refine jl rfl (jb rfl (jH (jH (jH (jH (WL.gU rfl rfl rfl ?_))))))
   refine WL.gU rfl rfl rfl ?_
   refine WL.gU rfl rfl rfl ?_
   refine WL.gU rfl rfl rfl ?_
   refine jH (jk rfl (jg rfl (jM (jF (jS (jf rfl (jM (jR (WX.inRet (jU ?_))))))))))
   exact jP [] (jr1 rfl (jtI rfl)) ⟨rfl, rfl, by rw [if_pos (.inl hr)]⟩
  by_cases hz : cl = Col.z
  case neg =>
   have hz' : cl.cs ≠ [.int .u8 0, .int .u8 0, .int .u8 0, .int .u8 0] := fun e => hz ((colz cl).2 e)
   refine jl rfl (jb rfl (jG (jm (jn rfl) (jG (jm (jp 1 rfl rfl rfl) (jG (jJ rfl rfl (jG (jb rfl (jG (jm (jn rfl) (jG (jm (jt 1 rfl rfl rfl) (jG (jm (Val.build0) ?_)))))))))))))))
   refine jG (jm (Val.neqD rfl rfl rfl rfl (by assumption)) ?_)
   refine jG (jk rfl (jk rfl (jg rfl (jM (jF (jS (jf rfl (jM (jR (WX.inRet (jU ?_)))))))))))
   exact jP [] (jr1 rfl (jtI rfl)) ⟨rfl, rfl, by rw [if_pos (.inr ⟨by decide, hz⟩)]⟩
  subst hz
  rw [if_neg (fun e => e.elim (fun e => e hr) fun e => e.2 rfl)]
  rw [if_neg (fun e => e.1 (by decide))]
  refine jl rfl (jb rfl (jG (jm (jn rfl) (jG (jm (jp 1 rfl rfl rfl) (jG (jJ rfl rfl (jG (jb rfl (jG (jm (jn rfl) (jG (jm (jt 1 rfl rfl rfl) (jG (jm (Val.build0) ?_)))))))))))))))
  refine jG (jm (Val.neqSame rfl rfl rfl) ?_)
  refine jG (jk rfl (jk rfl (jg rfl (jM (jE (jS (jb rfl (jl rfl (jb rfl (jH (jH (jH (jH (jH (WL.gU rfl rfl rfl ?_)))))))))))))))
  refine WL.gU rfl rfl rfl ?_
  refine WL.gU rfl rfl rfl ?_
  refine WL.gU rfl rfl rfl ?_
  refine jH (jH (WL.gU rfl rfl rfl ?_))
  refine WL.gU rfl rfl rfl ?_
  refine WL.gU rfl rfl rfl ?_
  refine WL.gU rfl rfl rfl ?_
  refine jH (jk rfl (jg rfl (jM (jE (jS (jb rfl (jb rfl (jG (jm (jn rfl) (jG (jm (jt 1 rfl rfl rfl) (jG ?_))))))))))))
  refine WL.callE rfl rfl (near_ctr fr _) rfl (fun hf => ?_) (fun hf => ?_)
  case refine_2 =>
   refine jG (jl rfl (jG (jb rfl (jH (jH (jH (jH (jG (jk rfl (jG (jb rfl (jH (jH (jH (jH (jH (jG (jk rfl (jk rfl (jg rfl (jM (jF (jS (jf rfl (jM (jR (WX.inRet (jU ?_))))))))))))))))))))))))))))
   exact jP [] (jr1 rfl (jtI rfl)) ⟨rfl, rfl, by rw [if_pos ⟨by decide, .inl hf⟩]⟩
  refine jG (jl rfl (jG (jb rfl (jG (jm (jn rfl) (jG (jm (jt 1 rfl rfl rfl) (jG ?_))))))))
  refine WL.callE rfl rfl (near_ctr to_ _) rfl (fun ht => ?_) (fun ht => ?_)
  case refine_2 =>
   refine jG (jl rfl (jG (jk rfl (jG (jb rfl (jH (jH (jH (jH (jH (jG (jk rfl (jk rfl (jg rfl (jM (jF (jS (jf rfl (jM (jR (WX.inRet (jU ?_))))))))))))))))))))))
   exact jP [] (jr1 rfl (jtI rfl)) ⟨rfl, rfl, by rw [if_pos ⟨by decide, .inr (.inl ht)⟩]⟩
  by_cases he : fr = to_
  case pos =>
   subst he
   refine jG (jl rfl (jG (jk rfl (jG (jb rfl (jG (jm (jn rfl) (jG (jm (jt 1 rfl rfl rfl) (jG (jm (jn rfl) (jG (jm (jt 1 rfl rfl rfl) (jG (jm (Val.eqlSame rfl rfl rfl) ?_)))))))))))))))
   refine jG (jk rfl (jk rfl (jg rfl (jM (jF (jS (jf rfl (jM (jR (WX.inRet (jU ?_)))))))))))
   exact jP [] (jr1 rfl (jtI rfl)) ⟨rfl, rfl, by rw [if_pos ⟨by decide, .inr (.inr rfl)⟩]⟩
  have he' : fr.cs ≠ to_.cs := fun e => he (Pt.inj e)
  rw [if_neg (fun e => e.2.elim (fun e => e hf) fun e => e.elim (fun e => e ht) he), if_pos (by decide)]
  refine jG (jl rfl (jG (jk rfl (jG (jb rfl (jG (jm (jn rfl) (jG (jm (jt 1 rfl rfl rfl) (jG (jm (jn rfl) (jG (jm (jt 1 rfl rfl rfl) (jG (jm (Val.eqlD rfl rfl rfl rfl (by assumption)) ?_)))))))))))))))
  refine jG (jk rfl (jk rfl (jg rfl (jM (jE (jS (jb rfl (jg rfl (jM (jF (jS (jm (jn rfl) (jm (jp 1 rfl rfl rfl) (WL.callS rfl rfl (stops_ctr st _ _ hst) rfl ?_))))))))))))))
  rintro _ rfl
  refine jf rfl (jM (jR (WX.inRet (jU ?_))))
  exact jP [] (jr1 rfl (jtI rfl)) ⟨rfl, rfl, rfl⟩
 ·skip
  refine jS (WL.boxA rfl rfl (fun _ => ?_))
  refine jW ?_
  refine jf rfl (jN (jm (jn rfl) (jm (jp 1 rfl rfl rfl) (jv rfl rfl (jb rfl (jG (jm (jn rfl) (jG (jm (jp 1 rfl rfl rfl) (jG (jw rfl rfl (jk rfl (jg rfl (jM (jB (WC.block (jS (jm (jn rfl) (jm (jp 1 rfl rfl rfl) (jx rfl rfl (jb rfl (jG (jm (jn rfl) (jG (jm (jp 1 rfl rfl rfl) (jG (jL rfl rfl (jk rfl (jg rfl (jM (jE (jS (jm (jn rfl) (jm (jt 1 rfl rfl rfl) ?_))))))))))))))))))))))))))))))))))
  refine WL.callE rfl rfl (colRight_ctr cl _) rfl (fun hr => ?_) (fun hr => ?_)
  case refine_2 =>
   refine jl rfl (jb rfl (jH (jH (jH (jH (WL.gU rfl rfl rfl ?_))))))
   refine WL.gU rfl rfl rfl ?_
   refine WL.gU rfl rfl rfl ?_
   refine WL.gU rfl rfl rfl ?_
   refine jH (jk rfl (jg rfl (jM (jF (jS (jf rfl (jM (jR (WX.inRet (jU ?_))))))))))
   exact jP [] (jr1 rfl (jtI rfl)) ⟨rfl, rfl, by rw [if_pos (.inl hr)]⟩
  by_cases hz : cl = Col.z
  case neg =>
   have hz' : cl.cs ≠ [.int .u8 0, .int .u8 0, .int .u8 0, .int .u8 0] := fun e => hz ((colz cl).2 e)
   refine jl rfl (jb rfl (jG (jm (jn rfl) (jG (jm (jp 1 rfl rfl rfl) (jG (jJ rfl rfl (jG (jb rfl (jG (jm (jn rfl) (jG (jm (jt 1 rfl rfl rfl) (jG (jm (Val.build0) ?_)))))))))))))))
   refine jG (jm (Val.neqD rfl rfl rfl rfl (by assumption)) ?_)
   refine jG (jk rfl (jk rfl (jg rfl (jM (jF (jS (jf rfl (jM (jR (WX.inRet (jU ?_)))))))))))
   exact jP [] (jr1 rfl (jtI rfl)) ⟨rfl, rfl, by rw [if_pos (.inr ⟨by decide, hz⟩)]⟩
  subst hz
  rw [if_neg (fun e => e.elim (fun e => e hr) fun e => e.2 rfl)]
  rw [if_neg (fun e => e.1 (by decide))]
  refine jl rfl (jb rfl (jG (jm (jn rfl) (jG (jm (jp 1 rfl rfl rfl) (jG (jJ rfl rfl (jG (jb rfl (jG (jm (jn rfl) (jG (jm (jt 1 rfl rfl rfl) (jG (jm (Val.build0) ?_)))))))))))))))
  refine jG (jm (Val.neqSame rfl rfl rfl) ?_)
  refine jG (jk rfl (jk rfl (jg rfl (jM (jE (jS (jb rfl (jl rfl (jb rfl (jH (jH (jH (jH (jH (WL.gU rfl rfl rfl ?_)))))))))))))))
  refine WL.gU rfl rfl rfl ?_
  refine WL.gU rfl rfl rfl ?_
  refine WL.gU rfl rfl rfl ?_
  refine jH (jH (WL.gU rfl rfl rfl ?_))
  refine WL.gU rfl rfl rfl ?_
  refine WL.gU rfl rfl rfl ?_
  refine WL.gU rfl rfl rfl ?_
  refine jH (jk rfl (jg rfl (jM (jE (jS (jb rfl (jb rfl (jG (jm (jn rfl) (jG (jm (jt 1 rfl rfl rfl) (jG ?_))))))))))))
  refine WL.callE rfl rfl (near_ctr fr _) rfl (fun hf => ?_) (fun hf => ?_)
  case refine_2 =>
   refine jG (jl rfl (jG (jb rfl (jH (jH (jH (jH (jG (jk rfl (jG (jb rfl (jH (jH (jH (jH (jH (jG (jk rfl (jk rfl (jg rfl (jM (jF (jS (jf rfl (jM (jR (WX.inRet (jU ?_))))))))))))))))))))))))))))
   exact jP [] (jr1 rfl (jtI rfl)) ⟨rfl, rfl, by rw [if_pos ⟨by decide, .inl hf⟩]⟩
  refine jG (jl rfl (jG (jb rfl (jG (jm (jn rfl) (jG (jm (jt 1 rfl rfl rfl) (jG ?_))))))))
  refine WL.callE rfl rfl (near_ctr to_ _) rfl (fun ht => ?_) (fun ht => ?_)
  case refine_2 =>
   refine jG (jl rfl (jG (jk rfl (jG (jb rfl (jH (jH (jH (jH (jH (jG (jk rfl (jk rfl (jg rfl (jM (jF (jS (jf rfl (jM (jR (WX.inRet (jU ?_))))))))))))))))))))))
   exact jP [] (jr1 rfl (jtI rfl)) ⟨rfl, rfl, by rw [if_pos ⟨by decide, .inr (.inl ht)⟩]⟩
  by_cases he : fr = to_
  case pos =>
   subst he
   refine jG (jl rfl (jG (jk rfl (jG (jb rfl (jG (jm (jn rfl) (jG (jm (jt 1 rfl rfl rfl) (jG (jm (jn rfl) (jG (jm (jt 1 rfl rfl rfl) (jG (jm (Val.eqlSame rfl rfl rfl) ?_)))))))))))))))
   refine jG (jk rfl (jk rfl (jg rfl (jM (jF (jS (jf rfl (jM (jR (WX.inRet (jU ?_)))))))))))
   exact jP [] (jr1 rfl (jtI rfl)) ⟨rfl, rfl, by rw [if_pos ⟨by decide, .inr (.inr rfl)⟩]⟩
  have he' : fr.cs ≠ to_.cs := fun e => he (Pt.inj e)
  rw [if_neg (fun e => e.2.elim (fun e => e hf) fun e => e.elim (fun e => e ht) he), if_pos (by decide)]
  refine jG (jl rfl (jG (jk rfl (jG (jb rfl (jG (jm (jn rfl) (jG (jm (jt 1 rfl rfl rfl) (jG (jm (jn rfl) (jG (jm (jt 1 rfl rfl rfl) (jG (jm (Val.eqlD rfl rfl rfl rfl (by assumption)) ?_)))))))))))))))
  refine jG (jk rfl (jk rfl (jg rfl (jM (jE (jS (jb rfl (jg rfl (jM (jF (jS (jm (jn rfl) (jm (jp 1 rfl rfl rfl) (WL.callS rfl rfl (stops_ctr st _ _ hst) rfl ?_))))))))))))))
  rintro _ rfl
  refine jf rfl (jM (jR (WX.inRet (jU ?_))))
  exact jP [] (jr1 rfl (jtI rfl)) ⟨rfl, rfl, rfl⟩
end Go.Proofs.YtggcpoleklcmkaaGreatDoor
