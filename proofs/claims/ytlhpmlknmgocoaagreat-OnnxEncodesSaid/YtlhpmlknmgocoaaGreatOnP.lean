/- A model's data, plain: what Count, Check, Encode and Decode answer. No program in sight. -/
import Derived.Test.YtlhpmlknmgocoaaGreatPB6
import Derived.Test.YtlhpmlknmgocoaaGreatHld
import Derived.Test.YtlhpmlknmgocoaaGreatPB4
namespace Go.Proofs.YtlhpmlknmgocoaaGreat
set_option linter.unusedSimpArgs false
set_option linter.unusedVariables false
open Go.RowKit

def u64 (x : Int64) : Nat := x.toUInt64.toNat
def i64 (n : Nat) : Int64 := (UInt64.ofNat n).toInt64

structure Tn where
  ty : Int64
  dims : List Int64
  f : List UInt32
  i : List Int64
  b : List Bool
structure Atr where
  name : List UInt8
  kind : Int64
  f : UInt32
  i : Int64
  s : List UInt8
  t : Tn
  fl : List UInt32
  il : List Int64
structure Nod where
  op : List UInt8
  name : List UInt8
  ins : List (List UInt8)
  outs : List (List UInt8)
  attrs : List Atr
structure Va where
  name : List UInt8
  ty : Int64
  dims : List Int64
structure Ini where
  name : List UInt8
  t : Tn
structure Mo where
  opset : Int64
  name : List UInt8
  nodes : List Nod
  inits : List Ini
  inputs : List Va
  outputs : List Va
def tn0 : Tn := ⟨0, [], [], [], []⟩
def mo0 : Mo := ⟨0, [], [], [], [], []⟩

/-! ### as data -/
def lfI (x : Int64) : Dat := .leaf (.int .i64 x.toInt)
def lfS (l : List UInt8) : Dat := .leaf (strV l)
def datI (l : List Int64) : Dat := .row 1 (l.map fun x => .leaf (.int .i64 x.toInt))
def datF (l : List UInt32) : Dat := .row 1 (l.map fun x => .leaf (.int .u32 (x.toNat : Int)))
def datO (l : List Bool) : Dat := .row 1 (l.map fun x => .leaf (.bool x))
def datS (l : List (List UInt8)) : Dat := .row 1 (l.map fun x => .leaf (strV x))
def datT (t : Tn) : List Dat := [lfI t.ty, datI t.dims, datF t.f, datI t.i, datO t.b]
def datA (a : Atr) : List Dat := [lfS a.name, lfI a.kind, .leaf (.int .u32 (a.f.toNat : Int)), lfI a.i, lfS a.s, lfI a.t.ty, datI a.t.dims, datF a.t.f, datI a.t.i, datO a.t.b, datF a.fl, datI a.il]
def datN (n : Nod) : List Dat := [lfS n.op, lfS n.name, datS n.ins, datS n.outs, .row 12 (n.attrs.flatMap datA)]
def datV (v : Va) : List Dat := [lfS v.name, lfI v.ty, datI v.dims]
def datC (c : Ini) : List Dat := [lfS c.name, lfI c.t.ty, datI c.t.dims, datF c.t.f, datI c.t.i, datO c.t.b]
def datM (m : Mo) : List Dat := [lfI m.opset, lfS m.name, .row 5 (m.nodes.flatMap datN), .row 6 (m.inits.flatMap datC), .row 3 (m.inputs.flatMap datV), .row 3 (m.outputs.flatMap datV)]

/-! ### Count -/
def prod : List Int64 → Int
  | [] => 1
  | d :: l => d.toInt * prod l
/-- how many; the error's number -/
def cnt (l : List Int64) : Int × Int :=
  if l.any (fun d => decide (d.toInt < 0)) then (0, 1)
  else if 8 < l.length then (0, 8)
  else if l.any (fun d => decide (d.toInt = 0)) then (0, 0)
  else if 4096 < prod l then (0, 8)
  else (prod l, 0)

/-! ### Check -/
def knownP (t : Int64) : Bool := decide (t = 1) || decide (t = 7) || decide (t = 9)
def noneT (t : Tn) : Bool := decide (t.ty = 0) && t.dims.isEmpty && t.f.isEmpty && t.i.isEmpty && t.b.isEmpty
def wantT (n : Int) (t : Tn) : Bool :=
  if t.ty = 1 then decide ((t.f.length : Int) = n) && t.i.isEmpty && t.b.isEmpty
  else if t.ty = 7 then decide ((t.i.length : Int) = n) && t.f.isEmpty && t.b.isEmpty
  else decide ((t.b.length : Int) = n) && t.f.isEmpty && t.i.isEmpty
def badT (t : Tn) : Bool := !knownP t.ty || decide ((cnt t.dims).2 = 1) || (decide ((cnt t.dims).2 = 0) && !wantT (cnt t.dims).1 t)
/-- r: as the document's own answer reckons it, which says no more of a tensor of an unknown type -/
def manyT (r : Bool) (t : Tn) : Bool := decide ((cnt t.dims).2 = 8) && (!r || knownP t.ty)
def longP (l : List UInt8) : Bool := decide (256 < l.length)
def kindP (k : Int64) : Bool := decide (k = 1) || decide (k = 2) || decide (k = 3) || decide (k = 4) || decide (k = 6) || decide (k = 7)
def badA (a : Atr) : Bool :=
  !kindP a.kind || (!decide (a.kind = 1) && !decide (a.f = 0)) || (!decide (a.kind = 2) && !decide (a.i = 0)) || (!decide (a.kind = 3) && !a.s.isEmpty) || (!decide (a.kind = 4) && !noneT a.t) || (!decide (a.kind = 6) && !a.fl.isEmpty) ||
    (!decide (a.kind = 7) && !a.il.isEmpty) || (decide (a.kind = 4) && badT a.t)
def manyA (r : Bool) (a : Atr) : Bool := longP a.name || decide (4096 < a.s.length) || decide (4096 < a.fl.length) || decide (4096 < a.il.length) || (decide (a.kind = 4) && manyT r a.t)
def badN (n : Nod) : Bool := n.op.isEmpty || n.attrs.any badA
def manyN (r : Bool) (n : Nod) : Bool :=
  longP n.op || longP n.name || n.ins.any longP || n.outs.any longP || decide (64 < n.ins.length) || decide (64 < n.outs.length) || decide (64 < n.attrs.length) || n.attrs.any (manyA r)
def badV (v : Va) : Bool := decide ((cnt v.dims).2 = 1) || !knownP v.ty
def manyV (v : Va) : Bool := longP v.name || decide ((cnt v.dims).2 = 8)
def badC (c : Ini) : Bool := badT c.t
def manyC (r : Bool) (c : Ini) : Bool := longP c.name || manyT r c.t
def badM (m : Mo) : Bool := !decide (m.opset = 17) || m.nodes.any badN || m.inits.any badC || m.inputs.any badV || m.outputs.any badV
def manyM (r : Bool) (m : Mo) : Bool :=
  decide (1024 < m.nodes.length) || decide (1024 < m.inits.length) || longP m.name || m.nodes.any (manyN r) || m.inits.any (manyC r) || decide (64 < m.inputs.length) || m.inputs.any manyV || decide (64 < m.outputs.length) || m.outputs.any manyV
def chk (r : Bool) (m : Mo) : Int := if badM m then 1 else if manyM r m then 8 else 0

/-! ### Encode -/
def vF (num : Int) (x : Nat) : Fld := ⟨num, 0, x, []⟩
def dF (num : Int) (b : List UInt8) : Fld := ⟨num, 2, 0, b⟩
def nameF (num : Int) (s : List UInt8) : List Fld := if s.isEmpty then [] else [dF num s]
def packB (l : List Int64) : List UInt8 := l.flatMap fun x => vi (u64 x)
def packF (num : Int) (l : List Int64) : List Fld := if l.isEmpty then [] else [dF num (packB l)]
def rawF (l : List UInt32) : List UInt8 := l.flatMap fun x => fix8 x.toNat 4
def rawI (l : List Int64) : List UInt8 := l.flatMap fun x => fix8 (u64 x) 8
def rawO (l : List Bool) : List UInt8 := l.map fun x => if x then 1 else 0
def rawT (t : Tn) : List UInt8 := rawF t.f ++ rawI t.i ++ rawO t.b
def encW (fs : List Fld) : List UInt8 := (writeE fs).1
def tenF (name : List UInt8) (t : Tn) : List Fld := packF 1 t.dims ++ [vF 2 (u64 t.ty)] ++ nameF 8 name ++ [dF 9 (rawT t)]
def attK (a : Atr) : List Fld :=
  if a.kind = 1 then [⟨2, 5, a.f.toNat, []⟩]
  else if a.kind = 2 then [vF 3 (u64 a.i)]
  else if a.kind = 3 then [dF 4 a.s]
  else if a.kind = 4 then [dF 5 (encW (tenF [] a.t))]
  else if a.kind = 6 then (if a.fl.isEmpty then [] else [dF 7 (rawF a.fl)])
  else if a.kind = 7 then packF 8 a.il
  else []
def attF (a : Atr) : List Fld := nameF 1 a.name ++ attK a ++ [vF 20 (u64 a.kind)]
def nodF (n : Nod) : List Fld := n.ins.map (dF 1) ++ n.outs.map (dF 2) ++ nameF 3 n.name ++ [dF 4 n.op] ++ n.attrs.map fun a => dF 5 (encW (attF a))
def shpF (l : List Int64) : List Fld := l.map fun d => dF 1 (encW [vF 1 (u64 d)])
def valF (v : Va) : List Fld := nameF 1 v.name ++ [dF 2 (encW [dF 1 (encW [vF 1 (u64 v.ty), dF 2 (encW (shpF v.dims))])])]
def graF (m : Mo) : List Fld :=
  (m.nodes.map fun n => dF 1 (encW (nodF n))) ++ nameF 2 m.name ++ (m.inits.map fun c => dF 5 (encW (tenF c.name c.t))) ++ (m.inputs.map fun v => dF 11 (encW (valF v))) ++ (m.outputs.map fun v => dF 12 (encW (valF v)))
def encM (m : Mo) : List UInt8 × Int :=
  if chk false m ≠ 0 then ([], chk false m)
  else if (writeE (graF m)).2 ≠ 0 then ([], (writeE (graF m)).2)
  else writeE [vF 1 8, dF 7 (encW (graF m)), dF 8 (encW [vF 2 17])]

/-! ### Decode -/
structure Fl where
  bad : Bool
  strange : Bool
  many : Bool
def fl0 : Fl := ⟨false, false, false⟩
def flb (b : Bool) : Fl := ⟨b, false, false⟩
def Fl.or (a b : Fl) : Fl := ⟨a.bad || b.bad, a.strange || b.strange, a.many || b.many⟩
theorem Fl.or_assoc (a b c : Fl) : (a.or b).or c = a.or (b.or c) := by simp [Fl.or, Bool.or_assoc]
theorem Fl.or_zero (a : Fl) : a.or fl0 = a := by simp [Fl.or, fl0]
theorem Fl.zero_or (a : Fl) : fl0.or a = a := by simp [Fl.or, fl0]
def Fl.all (l : List Fl) : Fl := ⟨l.any (·.bad), l.any (·.strange), l.any (·.many)⟩

def dFields (b : List UInt8) : List Fld × Fl := ((readE b).1, flb (!decide ((readE b).2 = 0)))
def dNum (l : List Fld) (num : Int) : (Int64 × Bool) × Fl := ((i64 (lastF 0 (sel num l)).1.x, (lastF 0 (sel num l)).2.1), flb (!decide ((lastF 0 (sel num l)).2.2 = 0)))
def dText (l : List Fld) (num : Int) (most : Nat) : List UInt8 × Fl := ((lastF 2 (sel num l)).1.data, ⟨!decide ((lastF 2 (sel num l)).2.2 = 0), false, decide (most < (lastF 2 (sel num l)).1.data.length)⟩)
def dMsg (l : List Fld) (num : Int) : (List UInt8 × Bool) × Fl := (((jn (sel num l)).getD [], jnb (sel num l)), flb (!decide (jne (sel num l) = 0)))
def dList {α : Type} (read : List UInt8 → α × Fl) (l : List Fld) (num : Int) (most : Nat) : List α × Fl :=
  ((sel num l).map fun f => (read f.data).1,
    ((Fl.all ((sel num l).map fun f => (read f.data).2)).or (flb ((sel num l).any fun f => !decide (f.wire = 2)))).or ⟨false, false, decide (most < (sel num l).length)⟩)
def dName1 (b : List UInt8) : List UInt8 × Fl := (b, ⟨false, false, decide (256 < b.length)⟩)
def dNames (l : List Fld) (num : Int) : List (List UInt8) × Fl := dList dName1 l num 64
def dZero (_ : List UInt8) : Int64 × Fl := (0, fl0)
def dRaw (b : List UInt8) : List UInt8 × Fl := (b, fl0)
def dInts (l : List Fld) (num : Int) : List Int64 × Fl := (((ints num l).getD []).map i64, flb (ints num l).isNone)
def dFloats (l : List Fld) (num : Int) : List UInt32 × Fl := (((gat (fixs1 num) l).getD []).map UInt32.ofNat, flb (gat (fixs1 num) l).isNone)
def dDims (l : List Int64) : (Int × Bool) × Fl := (((cnt l).1, decide ((cnt l).2 = 0)), ⟨decide ((cnt l).2 = 1), false, decide ((cnt l).2 = 8)⟩)

/-- n numbers of w bytes each -/
def cutN (w : Nat) : Nat → List UInt8 → List Nat
  | 0, _ => []
  | n + 1, b => lit8 (b.take w) :: cutN w n (b.drop w)
def widthP (ty : Int64) : Nat := if ty = 1 then 4 else if ty = 7 then 8 else 1
/-- fromRaw: the elements; are they right? -/
def rawP (ty : Int64) (dims : List Int64) (n : Nat) (b : List UInt8) : Tn × Bool :=
  if b.length ≠ n * widthP ty then (⟨ty, dims, [], [], []⟩, false)
  else if ty = 1 then (⟨ty, dims, (cutN 4 n b).map UInt32.ofNat, [], []⟩, true)
  else if ty = 7 then (⟨ty, dims, [], (cutN 8 n b).map i64, []⟩, true)
  else (⟨ty, dims, [], [], (cutN 1 n b).map fun x => decide (x = 1)⟩, (cutN 1 n b).all fun x => decide (x ≤ 1))

def dTenL (l : List Fld) : Ini × Fl :=
  let nm := dText l 8 256
  let di := dInts l 1
  let dd := dDims di.1
  let kd := dNum l 2
  let pl := dNum l 14
  let pa := dList dZero l 3 l.length
  let f := dFloats l 4
  let s := dInts l 5
  let lo := dInts l 7
  let raw := dList dRaw l 9 l.length
  let kind := kd.1.1
  let fl := nm.2.or <| di.2.or <| dd.2.or <| kd.2.or <| pl.2.or <| pa.2.or <|
    Fl.or ⟨decide (kind = 0), (!decide (kind = 0) && !knownP kind) || !decide (pl.1.1 = 0) || !pa.1.isEmpty, false⟩ <| f.2.or <| s.2.or <| lo.2.or raw.2
  let sum := f.1.length + s.1.length + lo.1.length
  let n := dd.1.1
  if !dd.1.2 || !knownP kind then (⟨nm.1, ⟨0, di.1, [], [], []⟩⟩, fl)
  else if raw.1.isEmpty then
    if kind = 1 then (⟨nm.1, ⟨kind, di.1, f.1, [], []⟩⟩, fl.or (flb (!decide ((sum : Int) = n) || !decide ((f.1.length : Int) = n))))
    else if kind = 7 then (⟨nm.1, ⟨kind, di.1, [], lo.1, []⟩⟩, fl.or (flb (!decide ((sum : Int) = n) || !decide ((lo.1.length : Int) = n))))
    else (⟨nm.1, ⟨kind, di.1, [], [], s.1.map fun x => decide (x = 1)⟩⟩, fl.or (flb (!decide ((sum : Int) = n) || !decide ((s.1.length : Int) = n) || s.1.any fun x => !decide (x = 0) && !decide (x = 1))))
  else if 0 < sum then (⟨nm.1, ⟨kind, di.1, [], [], []⟩⟩, fl.or (flb true))
  else (⟨nm.1, (rawP kind di.1 n.toNat (raw.1.getLast?.getD [])).1⟩, fl.or (flb (!(rawP kind di.1 n.toNat (raw.1.getLast?.getD [])).2)))
def dTensor (b : List UInt8) : Ini × Fl := ((dTenL (dFields b).1).1, (dFields b).2.or (dTenL (dFields b).1).2)

def dAttL (l : List Fld) : Atr × Fl :=
  let nm := dText l 1 256
  let f := lastF 5 (sel 2 l)
  let i := dNum l 3
  let text := dText l 4 4096
  let ms := dMsg l 5
  let c : Ini × Fl := if ms.1.2 then dTensor ms.1.1 else (⟨[], tn0⟩, fl0)
  let fs := dFloats l 7
  let is := dInts l 8
  let kd := dNum l 20
  let kind := kd.1.1
  let fl := nm.2.or <| (flb (!decide (f.2.2 = 0))).or <| i.2.or <| text.2.or <| ms.2.or <| c.2.or <| fs.2.or <| is.2.or <| Fl.or ⟨false, false, decide (4096 < fs.1.length) || decide (4096 < is.1.length)⟩ <| kd.2
  if kind = 0 then (⟨nm.1, kind, 0, 0, [], tn0, [], []⟩, fl.or (flb true))
  else if kind = 1 then (⟨nm.1, kind, UInt32.ofNat f.1.x, 0, [], tn0, [], []⟩, fl)
  else if kind = 2 then (⟨nm.1, kind, 0, i.1.1, [], tn0, [], []⟩, fl)
  else if kind = 3 then (⟨nm.1, kind, 0, 0, text.1, tn0, [], []⟩, fl)
  else if kind = 4 then (⟨nm.1, kind, 0, 0, [], c.1.t, [], []⟩, fl.or (flb (!ms.1.2)))
  else if kind = 6 then (⟨nm.1, kind, 0, 0, [], tn0, fs.1, []⟩, fl)
  else if kind = 7 then (⟨nm.1, kind, 0, 0, [], tn0, [], is.1⟩, fl)
  else (⟨nm.1, kind, 0, 0, [], tn0, [], []⟩, fl.or ⟨false, true, false⟩)
def dAttr (b : List UInt8) : Atr × Fl := ((dAttL (dFields b).1).1, (dFields b).2.or (dAttL (dFields b).1).2)

/-- ai.onnx -/
def aiP : List UInt8 := [97, 105, 46, 111, 110, 110, 120]
def oursP (l : List UInt8) : Bool := l.isEmpty || decide (l = aiP)
def dNodL (l : List Fld) : Nod × Fl :=
  let op := dText l 4 256
  let nm := dText l 3 256
  let i := dNames l 1
  let o := dNames l 2
  let a := dList dAttr l 5 64
  let d := dText l 7 4194304
  (⟨op.1, nm.1, i.1, o.1, a.1⟩, op.2.or <| nm.2.or <| i.2.or <| o.2.or <| a.2.or <| (flb op.1.isEmpty).or <| d.2.or ⟨false, !oursP d.1, false⟩)
def dNode (b : List UInt8) : Nod × Fl := ((dNodL (dFields b).1).1, (dFields b).2.or (dNodL (dFields b).1).2)

def dDim (b : List UInt8) : Int64 × Fl := ((dNum (dFields b).1 1).1.1, (dFields b).2.or ((dNum (dFields b).1 1).2.or ⟨false, !(dNum (dFields b).1 1).1.2, false⟩))
/-- the type and the shape of a value's tensor -/
def dTyL (f : List Fld) : (Int64 × List Int64) × Fl :=
  let kd := dNum f 1
  let sh := dMsg f 2
  let fl := kd.2.or (sh.2.or ⟨false, !knownP kd.1.1 || !sh.1.2, false⟩)
  if sh.1.2 then
    let s := dFields sh.1.1
    let di := dList dDim s.1 1 s.1.length
    ((kd.1.1, di.1), fl.or (s.2.or (di.2.or (dDims di.1).2)))
  else ((kd.1.1, []), fl)
def dValL (l : List Fld) : Va × Fl :=
  let nm := dText l 1 256
  let so := dMsg l 2
  if !so.1.2 then (⟨nm.1, 0, []⟩, (nm.2.or so.2).or (flb true))
  else
    let s := dFields so.1.1
    let te := dMsg s.1 1
    let fl := (nm.2.or so.2).or (s.2.or te.2)
    if !te.1.2 then (⟨nm.1, 0, []⟩, fl.or ⟨false, true, false⟩)
    else
      let f := dFields te.1.1
      let ty := dTyL f.1
      (⟨nm.1, ty.1.1, ty.1.2⟩, fl.or (f.2.or ty.2))
def dValue (b : List UInt8) : Va × Fl := ((dValL (dFields b).1).1, (dFields b).2.or (dValL (dFields b).1).2)

def dGraL (l : List Fld) : Mo × Fl :=
  let nm := dText l 2 256
  let n := dList dNode l 1 1024
  let c := dList dTensor l 5 1024
  let i := dList dValue l 11 64
  let o := dList dValue l 12 64
  let s := dList dZero l 15 l.length
  (⟨17, nm.1, n.1, c.1, i.1, o.1⟩, nm.2.or <| n.2.or <| c.2.or <| i.2.or <| o.2.or <| s.2.or ⟨false, !s.1.isEmpty, false⟩)
def dGraph (b : List UInt8) : Mo × Fl := ((dGraL (dFields b).1).1, (dFields b).2.or (dGraL (dFields b).1).2)

def dOwn (b : List UInt8) : (Bool × Int64) × Fl :=
  let l := (dFields b).1
  let d := dText l 1 4194304
  let n := dNum l 2
  ((oursP d.1, n.1.1), (dFields b).2.or (d.2.or n.2))
def lastOwn (l : List (Bool × Int64)) : Int64 := l.foldl (fun x o => if o.1 then o.2 else x) 0
def dFits (l : List Fld) : Bool × Fl := (decide (lastOwn (dList dOwn l 8 l.length).1 = 17), (dList dOwn l 8 l.length).2)
def dModL (l : List Fld) : Mo × Fl :=
  let v := dNum l 1
  let b := dMsg l 7
  let g := dGraph b.1.1
  let f := dFits l
  (g.1, v.2.or <| b.2.or <| (flb (!b.1.2)).or <| g.2.or <| f.2.or ⟨false, !f.1, false⟩)
def dModel (b : List UInt8) : Mo × Fl := ((dModL (dFields b).1).1, (dFields b).2.or (dModL (dFields b).1).2)
def errP (f : Fl) : Int := if f.bad then 6 else if f.strange then 7 else if f.many then 8 else 0
def decM (b : List UInt8) : Mo × Int :=
  if 4194304 < b.length then (mo0, 8) else if errP (dModel b).2 = 0 then ((dModel b).1, 0) else (mo0, errP (dModel b).2)
end Go.Proofs.YtlhpmlknmgocoaaGreat
