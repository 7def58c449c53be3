import Derived.Test.YtcbhlpbkampfeaaA4
/- Part of a proof. -/
set_option linter.unusedVariables false
namespace Go.Proofs.Ytcbhlpbkampfeaa.AI

inductive AX where
 | t (n : Nat)
 | k (v : AV)

def AX.ev (ta : ATm) : AX → AV
 | .t n => ta.get n
 | .k v => v

inductive AOp where
 | mov (x : AX)
 | pick (c a b : AX)
 | new (zs : List AV) (t : TypeId)
 | box (x : AX) (t : TypeId)
 | build (zs : List AV) (ps : List (Nat × Nat × AX))
 | lits (s : Nat) (t : TypeId) (xs : List AX)
 | litr (s : Nat) (t : TypeId) (xs : List AX)
 | load (n : Nat) (agg : Bool) (p : AX)
 | store (n : Nat) (p x : AX)
 | fld (off : Nat) (x : AX)
 | idx (s : Nat) (x i : AX)
 | idxa (s len : Nat) (x i : AX)
 | part (off n : Nat) (agg : Bool) (x : AX)
 | elem (s len : Nat) (agg : Bool) (x i : AX)
 | sidx (x i : AX)
 | ssl (x : AX) (lo hi : Option AX)
 | bin (op : BinOp) (x y : AX)
 | eqb (neg : Bool) (x y : AX)
 | eqp (neg : Bool) (x y : AX)
 | eqs (neg : Bool) (ks : List Nat) (x y : AX)
 | un (op : UnOp) (x : AX)
 | conv (k : IntKind) (x : AX)
 | mkif (t : TypeId) (x : AX)
 | mkfn (f : Fn) (a b : List AX)
 | mksl (s bytes : Nat) (zs : List AV) (t : TypeId) (n : AX)
 | sl (s : Nat) (x : AX) (lo hi mx : Option AX)
 | len (str : Bool) (x : AX)
 | app (s bytes : Nat) (t : TypeId) (x y : AX)
 | minmax (mx : Bool) (x y : AX)
 | ext (i : Nat) (x : AX)
 | call (f : FuncId) (xs : List AX)
 | callv (x : AX) (xs : List AX)
 | pan (x : AX)
 | nchk (x : AX)
 | isnil (neg : Bool) (x : AX)
 | ifnil (neg : Bool) (x : AX)
 | tas (t : TypeId) (x : AX)
 | mkmap
 | mlk (g : Bool) (n : Nat) (ok : Bool) (z : AV) (x i : AX)
 | mup (g : Bool) (n : Nat) (x i y : AX)
 | mlen (x : AX)
 | stuck

structure IOp where
 dst : Option Nat
 op : AOp
 guard : Option (Nat × Bool)

structure DOp where
 o : IOp
 ix : Nat
 bef : List Nat
 rd : Bool := false

inductive ACode where
 | skip
 | reg (ops : List IOp)
 | regd (ops : List DOp)
 | regd2 (ops ops' : List DOp)
 | regdn (ops : List DOp)
 | seq (a b : ACode)
 | cond (c : AX) (a b : ACode)
 | block (id : Nat) (a : ACode)
 | loop (a : ACode)
 | exit (id : Nat)
 | scope (a : ACode)
 | label (l : Nat)
 | goto (l : Nat)
 | ret
 | dfr (d : Nat) (g : FuncId) (xs : List AX)

def cellsOf : AV → Option (List AV)
 | .agg cs => some cs
 | .tup _ | .any => none
 | v => some [v]

def splice (l : List AV) (j : Nat) : List AV → List AV
 | [v] => l.set j v
 | vs => l.take j ++ vs ++ l.drop (j + vs.length)

def fillA (cells : List AV) : List (Nat × Nat × AV) → Option (List AV)
 | [] => some cells
 | (off, n, v) :: ps => match cellsOf v with
  | some vs => if vs.length = n ∧ off + n ≤ cells.length then fillA (splice cells off vs) ps else none
  | none => none

def Xbi (s : Nat) : List AV → Option (List (List AV))
 | [] => some []
 | v :: vs => match cellsOf v, Xbi s vs with
  | some c, some cs => if c.length = s ∧ pures c = true then some (c :: cs) else none
  | _, _ => none

inductive R1 where
 | ok (v : AV) (H : List AObj)
 | call (f : FuncId) (args : List AV)
 | pan (v : AV)
 | bad

def Xn8 (H : List AObj) (n : Nat) (vs : List AV) : AV → R1
 | .ptr id e j => match H[id]? with
  | some (.box cs t) => if e = 0 ∧ j + n ≤ cs.length then .ok .any (H.set id (.box (splice cs j vs) t)) else .bad
  | some (.mem sz es t) => match es[e]? with
   | some el => if j + n ≤ el.length then .ok .any (H.set id (.mem sz (es.set e (splice el j vs)) t)) else .bad
   | none => .bad
  | _ => .bad
 | _ => .bad

def andInt (k : IntKind) (a b : Int) : Int := k.wrap (BitVec.ofInt k.bits a &&& BitVec.ofInt k.bits b).toNat
def orInt (k : IntKind) (a b : Int) : Int := k.wrap (BitVec.ofInt k.bits a ||| BitVec.ofInt k.bits b).toNat
def xorInt (k : IntKind) (a b : Int) : Int := k.wrap (BitVec.ofInt k.bits a ^^^ BitVec.ofInt k.bits b).toNat
def Xmq (k : IntKind) (a b : Int) : Int := k.wrap (BitVec.ofInt k.bits a &&& ~~~ BitVec.ofInt k.bits b).toNat

def binI (d : IntKind) (a b : Int) : BinOp → Option AV
 | .add => some (.int d (d.wrap (a + b)))
 | .sub => some (.int d (d.wrap (a - b)))
 | .mul => some (.int d (d.wrap (a * b)))
 | .quo => if b = 0 then none else some (.int d (d.wrap (a.tdiv b)))
 | .rem => if b = 0 then none else some (.int d (a.tmod b))
 | .and => some (.int d (andInt d a b))
 | .or => some (.int d (orInt d a b))
 | .xor => some (.int d (xorInt d a b))
 | .andNot => some (.int d (Xmq d a b))
 | .eql => some (.bool (decide (a = b)))
 | .neq => some (.bool (decide (a ≠ b)))
 | .lss => some (.bool (decide (a < b)))
 | .leq => some (.bool (decide (a ≤ b)))
 | .gtr => some (.bool (decide (b < a)))
 | .geq => some (.bool (decide (b ≤ a)))
 | _ => none
def binA (op : BinOp) : AV → AV → Option AV
 | .int d a, .int d' b => match op with
  | .shl => if 0 ≤ b then some (.int d (d.wrap (a * 2 ^ (min b.toNat d.bits)))) else none
  | .shr => if 0 ≤ b then some (.int d (a.fdiv (2 ^ (min b.toNat d.bits)))) else none
  | op => if d = d' then binI d a b op else none
 | .str a, .str b => match op with
  | .eql => some (.bool (a.toList == b.toList))
  | .neq => some (.bool (!(a.toList == b.toList)))
  | _ => none
 | _, _ => none

def eqTag : Nat → AV → AV → Option Bool
 | 0, .int d a, .int d' b => if d = d' then some (decide (a = b)) else none
 | 1, .bool a, .bool b => some (a == b)
 | 2, .str a, .str b => some (a == b)
 | _, _, _ => none
def Yy : List Nat → List AV → List AV → Option Bool
 | [], _, _ => some true
 | k :: ks, a :: as, b :: bs => match eqTag k a b, Yy ks as bs with
  | some x, some y => some (x && y)
  | _, _ => none
 | _, _, _ => none
def eqS (ks : List Nat) : AV → AV → Option Bool
 | .agg as, .agg bs => Yy ks as bs
 | _, _ => none
def eqB : AV → AV → Option Bool
 | .bool a, .bool b => some (a == b)
 | _, _ => none
def eqP : AV → AV → Option Bool
 | .nilp, .nilp => some true
 | .nilp, .ptr _ _ _ | .ptr _ _ _, .nilp | .nilp, .vptr _ _ | .vptr _ _, .nilp => some false
 | _, _ => none

def intOr (d : Int) : Option AV → Option Int
 | none => some d
 | some (.int _ n) => some n
 | _ => none
def sslA (lo hi : Option AV) : AV → Option AV
 | .str s => match intOr 0 lo, intOr s.size hi with
  | some l, some h => if 0 ≤ l ∧ l ≤ h ∧ h ≤ s.size then some (.str (s.extract l.toNat h.toNat)) else none
  | _, _ => none
 | _ => none
def Xn9 (H : List AObj) (s : Nat) (lo hi mx : Option AV) : AV → Option AV
 | .vec c es => match intOr 0 lo, intOr es.length hi, intOr es.length mx with
  | some l, some h, some m => if 0 ≤ l ∧ l ≤ h ∧ h ≤ m ∧ m ≤ es.length ∧ es.all (fun el => el.length == s) = true then
    some (.vec (match mx with | some _ => decide (h = m) | none => c && decide (h = es.length)) ((es.drop l.toNat).take (h.toNat - l.toNat))) else none
  | _, _, _ => none
 | .row id off len => match intOr 0 lo, intOr len hi, intOr len mx, H[id]? with
  | some l, some h, some m, some (.mem sz _ _) => if 0 ≤ l ∧ l ≤ h ∧ h ≤ m ∧ m ≤ len ∧ sz = s then some (match mx with | some _ => if m = l then .vec true [] else .row id (off + l.toNat) (h.toNat - l.toNat) | none => .row id (off + l.toNat) (h.toNat - l.toNat)) else none
  | _, _, _, _ => none
 | _ => none

def appA (H : List AObj) (s bytes : Nat) (t : TypeId) (ys : List (List AV)) : AV → R1
 | .vec true es => if ys.length = 0 ∧ 0 < es.length then (if es.all (fun el => el.length == s) = true then .ok (.vec true es) H else .bad) else if (es.length + ys.length) * bytes ≤ 140737488355328 ∧ (es.length = 0 ∨ 0 < ys.length) ∧ es.all (fun el => el.length == s) = true then .ok (.row H.length 0 (es.length + ys.length)) (H ++ [.mem s (es ++ ys) t]) else .bad
 | .row id off len => match H[id]? with
  | some (.mem sz es t') => if (len + ys.length) * bytes ≤ 140737488355328 ∧ sz = s ∧ t' = t ∧ off + len ≤ es.length then .ok (.row H.length 0 (len + ys.length)) (H.set id .dead ++ [.mem s ((es.drop off).take len ++ ys) t]) else .bad
  | _ => .bad
 | _ => .bad

def Xge (H : List AObj) : AV → Option (List (List AV))
 | .vec _ es => some es
 | .row id off len => match H[id]? with
  | some (.mem _ es _) => if off + len ≤ es.length then some ((es.drop off).take len) else none
  | _ => none
 | _ => none

def pickA (H : List AObj) (c : Bool) : AV → AV → R1
 | .bool x, .bool y => .ok (.bool (cond c x y)) H
 | a, b => match c with
  | true => .ok a H
  | false => .ok b H
def orBad (H : List AObj) : Option AV → R1
 | some v => .ok v H
 | none => .bad

def keyA : Bool → AV → Option (List AV)
 | true, .agg cs => some cs
 | false, .int k n => some [.int k n]
 | _, _ => none
def findM (g : Bool) (n : Nat) (kc : List AV) : List (AV × AV) → Option (Option Nat)
 | [] => some none
 | p :: es => match keyA g p.1 with
  | some cs => if cs.length = n then match Yy (List.replicate n 0) kc cs with
    | some true => some (some 0)
    | some false => match findM g n kc es with
     | some r => some (r.map (· + 1))
     | none => none
    | none => none
   else none
  | none => none
def mlk0 (g : Bool) (n : Nat) (ok : Bool) (z key : AV) (es : List (AV × AV)) : Option AV := match keyA g key with
 | some kc => if kc.length = n then match findM g n kc es with
   | some (some i) => match es[i]? with
    | some p => some (if ok then .tup [p.2, .bool true] else p.2)
    | none => none
   | some none => some (if ok then .tup [z, .bool false] else z)
   | none => none
  else none
 | none => none
def mup0 (g : Bool) (n : Nat) (key v : AV) (es : List (AV × AV)) : Option (List (AV × AV)) := match keyA g key with
 | some kc => if kc.length = n then match findM g n kc es with
   | some (some i) => some (es.set i (key, v))
   | some none => some (es ++ [(key, v)])
   | none => none
  else none
 | none => none
def mlkA (H : List AObj) (g : Bool) (n : Nat) (ok : Bool) (z key : AV) : AV → Option AV
 | .map id => match H[id]? with
  | some (.map es _) => mlk0 g n ok z key es
  | _ => none
 | _ => none
def mupA (H : List AObj) (g : Bool) (n : Nat) (key v : AV) : AV → R1
 | .map id => match H[id]? with
  | some (.map es c) => match mup0 g n key v es with
   | some es' => .ok .any (H.set id (.map es' c))
   | none => .bad
  | _ => .bad
 | _ => .bad
def mlenA (H : List AObj) : AV → Option AV
 | .map id => match H[id]? with
  | some (.map es _) => some (.int .i64 es.length)
  | _ => none
 | _ => none

def evO (ta : ATm) (H : List AObj) : AOp → R1
 | .mov x => .ok (x.ev ta) H
 | .pick c a b => match c.ev ta with
  | .bool x => pickA H x (a.ev ta) (b.ev ta)
  | _ => .bad
 | .new zs t => .ok (.ptr H.length 0 0) (H ++ [.box zs t])
 | .box x t => match cellsOf (x.ev ta) with
  | some cs => .ok (.ptr H.length 0 0) (H ++ [.box cs t])
  | none => .bad
 | .build zs ps => match fillA zs (ps.map fun p => (p.1, p.2.1, p.2.2.ev ta)) with
  | some cs => .ok (.agg cs) H
  | none => .bad
 | .lits s t xs => match Xbi s (xs.map (AX.ev ta)) with
  | some es => .ok (.vec true es) H
  | none => .bad
 | .litr s t xs => match Xbi s (xs.map (AX.ev ta)) with
  | some es => .ok (.row H.length 0 es.length) (H ++ [.mem s es t])
  | none => .bad
 | .load n agg p => match Xdk H n (p.ev ta) with
  | some cs => .ok (asVal agg cs) H
  | none => .bad
 | .store n p x => match cellsOf (x.ev ta) with
  | some vs => if vs.length = n then Xn8 H n vs (p.ev ta) else .bad
  | none => .bad
 | .fld off x => match x.ev ta with
  | .ptr id e j => .ok (.ptr id e (j + off)) H
  | .vptr el j => .ok (.vptr el (j + off)) H
  | _ => .bad
 | .idx s x i => match x.ev ta, i.ev ta with
  | .vec c es, .int _ n => match es[n.toNat]? with
   | some el => if 0 ≤ n ∧ el.length = s then .ok (.vptr el 0) H else .bad
   | none => .bad
  | .row id off len, .int _ n => match H[id]? with
   | some (.mem sz _ _) => if 0 ≤ n ∧ n < len ∧ sz = s then .ok (.ptr id (off + n.toNat) 0) H else .bad
   | _ => .bad
  | _, _ => .bad
 | .idxa s len x i => match x.ev ta, i.ev ta with
  | .ptr id e j, .int _ n => if 0 ≤ n ∧ n < len then .ok (.ptr id e (j + n.toNat * s)) H else .bad
  | .vptr el j, .int _ n => if 0 ≤ n ∧ n < len then .ok (.vptr el (j + n.toNat * s)) H else .bad
  | _, _ => .bad
 | .part off n agg x => match x.ev ta with
  | .agg cs => if off + n ≤ cs.length then .ok (asVal agg ((cs.drop off).take n)) H else .bad
  | _ => .bad
 | .elem s len agg x i => match x.ev ta, i.ev ta with
  | .agg cs, .int _ n => if 0 ≤ n ∧ n < len ∧ n.toNat * s + s ≤ cs.length then .ok (asVal agg ((cs.drop (n.toNat * s)).take s)) H else .bad
  | _, _ => .bad
 | .sidx x i => match x.ev ta, i.ev ta with
  | .str s, .int _ n => match s.data[n.toNat]? with
   | some b => if 0 ≤ n then .ok (.int .u8 b.toNat) H else .bad
   | none => .bad
  | _, _ => .bad
 | .ssl x lo hi => orBad H (sslA (lo.map (AX.ev ta)) (hi.map (AX.ev ta)) (x.ev ta))
 | .bin op x y => orBad H (binA op (x.ev ta) (y.ev ta))
 | .eqb neg x y => match eqB (x.ev ta) (y.ev ta) with
  | some b => .ok (.bool (b != neg)) H
  | none => .bad
 | .eqp neg x y => match eqP (x.ev ta) (y.ev ta) with
  | some b => .ok (.bool (b != neg)) H
  | none => .bad
 | .eqs neg ks x y => match eqS ks (x.ev ta) (y.ev ta) with
  | some b => .ok (.bool (b != neg)) H
  | none => .bad
 | .un op x => match op, x.ev ta with
  | .not, .bool b => .ok (.bool (!b)) H
  | .neg, .int d n => .ok (.int d (d.wrap (0 - n))) H
  | _, _ => .bad
 | .conv d x => match x.ev ta with
  | .int _ n => .ok (.int d (d.wrap n)) H
  | _ => .bad
 | .mkif t x => .ok (.iface t (x.ev ta)) H
 | .mkfn f a b => .ok (.fn f (a.map (AX.ev ta)) (b.map (AX.ev ta))) H
 | .mksl s bytes zs t n => match n.ev ta with
  | .int _ n => if 0 ≤ n ∧ n * bytes ≤ 140737488355328 then .ok (.row H.length 0 n.toNat) (H ++ [.mem s (List.replicate n.toNat zs) t]) else .bad
  | _ => .bad
 | .sl s x lo hi mx => orBad H (Xn9 H s (lo.map (AX.ev ta)) (hi.map (AX.ev ta)) (mx.map (AX.ev ta)) (x.ev ta))
 | .len str x => match str, x.ev ta with
  | false, .vec _ es => .ok (.int .i64 es.length) H
  | false, .row _ _ len => .ok (.int .i64 len) H
  | true, .str s => .ok (.int .i64 s.size) H
  | _, _ => .bad
 | .app s bytes t x y => match Xge H (y.ev ta) with
  | some ys => if ys.all (fun el => el.length == s) = true then appA H s bytes t ys (x.ev ta) else .bad
  | none => .bad
 | .minmax mx x y => match x.ev ta, y.ev ta with
  | .int d a, .int d' b => if d = d' then .ok (.int d (if mx = true then max a b else min a b)) H else .bad
  | _, _ => .bad
 | .ext i x => match x.ev ta with
  | .tup vs => match vs[i]? with
   | some v => .ok v H
   | none => .bad
  | _ => .bad
 | .call f xs => .call f (xs.map (AX.ev ta))
 | .callv x xs => match x.ev ta with
  | .fn (.func f) a b => .call f (a ++ xs.map (AX.ev ta) ++ b)
  | _ => .bad
 | .pan x => match x.ev ta with
  | .iface t v => .pan (.iface t v)
  | _ => .bad
 | .nchk x => match x.ev ta with
  | .ptr id e j => .ok (.ptr id e j) H
  | .vptr el j => .ok (.vptr el j) H
  | .iface t v => .ok (.iface t v) H
  | .fn (.func f) a b => .ok (.fn (.func f) a b) H
  | _ => .bad
 | .isnil neg x => match x.ev ta with
  | .vec _ es => if es.length = 0 then .ok .anyb H else .ok (.bool neg) H
  | .row _ _ len => if len = 0 then .ok .anyb H else .ok (.bool neg) H
  | _ => .bad
 | .ifnil neg x => match x.ev ta with
  | .nilif => .ok (.bool (!neg)) H
  | .iface _ _ => .ok (.bool neg) H
  | _ => .bad
 | .tas t x => match x.ev ta with
  | .iface t' v => if t' = t then .ok (.tup [v, .bool true]) H else .bad
  | _ => .bad
 | .mkmap => .ok (.map H.length) (H ++ [.map [] 0])
 | .mlk g n ok z x i => orBad H (mlkA H g n ok z (i.ev ta) (x.ev ta))
 | .mup g n x i y => mupA H g n (i.ev ta) (y.ev ta) (x.ev ta)
 | .mlen x => orBad H (mlenA H (x.ev ta))
 | .stuck => .bad

def absS : Value → Option AV
 | .bool b => some (.bool b)
 | .int k n => some (.int k n)
 | .string s => some (.str s)
 | .pointer none => some .nilp
 | .slice none 0 0 => some (.vec true [])
 | .map none => some .nilmap
 | .nilFunc => some .nilfn
 | .nilIface => some .nilif
 | _ => none
def absL : List Value → Option (List AV)
 | [] => some []
 | v :: vs => match absS v, absL vs with
  | some x, some xs => some (x :: xs)
  | _, _ => none
def absV : Value → Option AV
 | .agg cs => (absL cs.toList).map .agg
 | v => absS v
def compX : Operand → Option AX
 | .tmp t => some (.t t)
 | .const (.iface t v) => (absV v).map fun x => .k (.iface t x)
 | .const v => (absV v).map .k
 | .func f => some (.k (.fn (.func f) [] []))
 | .global _ => none
def QD : List Operand → Option (List AX)
 | [] => some []
 | x :: xs => match compX x, QD xs with
  | some y, some ys => some (y :: ys)
  | _, _ => none

def zeroT (P : Program) (t : TypeId) : Option (List AV) := match P.info? t with
 | some i => match i.zero with
  | some z => absL z.cells.toList
  | none => none
 | none => none
def Xiy (P : Program) (t : TypeId) : Option Nat := (P.info? t).map (·.bytes)

def Xfl (P : Program) : List Field → Option (List (Nat × Nat))
 | [] => some []
 | f :: fs => match sizeT P f.type, Xfl P fs with
  | some n, some ps => some ((f.offset, n) :: ps)
  | _, _ => none
def placeT (P : Program) (t : TypeId) : Option (Nat → Option (Nat × Nat)) := match P.underlying t with
 | some (.struct fs) => (Xfl P fs.toList).map fun ps i => ps[i]?
 | some (.array _ e) => (sizeT P e).map fun n i => some (i * n, n)
 | _ => none
def Xa5 (place : Nat → Option (Nat × Nat)) : List (Nat × Operand) → Option (List (Nat × Nat × AX))
 | [] => some []
 | (i, x) :: ps => match place i, compX x, Xa5 place ps with
  | some (off, n), some y, some qs => some ((off, n, y) :: qs)
  | _, _, _ => none
def Xbh : Nat → List (Nat × Operand) → Option (List AX)
 | _, [] => some []
 | n, (i, x) :: ps => match compX x, Xbh (n + 1) ps with
  | some y, some ys => if i = n then some (y :: ys) else none
  | _, _ => none
def compO (x : Option Operand) : Option (Option AX) := match x with
 | none => some none
 | some x => (compX x).map some

def flatT (P : Program) : Nat → TypeId → Bool
 | 0, _ => false
 | d + 1, t => match P.underlying t with
  | some .bool | some (.int _) | some .string => true
  | some (.struct fs) => !P.stoodInHeld t && fs.all fun f => f.name != "_" && flatT P d f.type
  | some (.array _ e) => flatT P d e
  | _ => false

def tagsF (P : Program) : Nat → List Field → Option (List Nat)
 | _, [] => some []
 | i, f :: fs => if f.offset = i ∧ (f.name == "_") = false ∧ sizeT P f.type = some 1 ∧ Qi P f.type = some false then
   match P.underlying f.type, tagsF P (i + 1) fs with
   | some (.int _), some ks => some (0 :: ks)
   | some .bool, some ks => some (1 :: ks)
   | some .string, some ks => some (2 :: ks)
   | _, _ => none
  else none
def lit1 : List AX → Bool
 | [.k (.int .i64 _)] => true
 | _ => false
def lit32 : Option TypeDesc → List AX → Bool
 | some (.int .i32), [.t _] => true
 | _, _ => false
def Xfx (P : Program) (o : Op) : Option AOp := match o with
 | .move x | .assign x => (compX x).map .mov
 | .pick c a b => match compX c, compX a, compX b with
  | some c, some a, some b => some (.pick c a b)
  | _, _, _ => none
 | .alloc e => (zeroT P e).map fun zs => .new zs e
 | .box e x => (compX x).map fun y => .box y e
 | .build t ps => match zeroT P t, placeT P t with
  | some zs, some place => (Xa5 place ps.toList).map (.build zs)
  | _, _ => none
 | .buildSlice t len ps => match P.underlying t with
  | some (.slice e) => match sizeT P e, zeroT P e, Xbh 0 ps.toList with
   | some s, some zs, some xs => if xs.length = len ∧ 0 < s ∧ len * s ≤ 16777216 ∧ zs.length = s then some (if (lit1 xs || lit32 (P.underlying e) xs) = true then .litr s e xs else .lits s e xs) else none
   | _, _, _ => none
  | _ => none
 | .load t x => match sizeT P t, Qi P t, compX x with
  | some n, some true, some y => some (.load n true y)
  | some 1, some false, some y => some (.load 1 false y)
  | _, _, _ => none
 | .store t p x => match sizeT P t, compX p, compX x with
  | some n, some p, some x => some (.store n p x)
  | _, _, _ => none
 | .binOp op t x y _ => match compX x, compX y with
  | some a, some b => match P.underlying t, op with
   | some (.int _), _ => some (.bin op a b)
   | some .string, _ => some (.bin op a b)
   | some .bool, .eql => some (.eqb false a b)
   | some .bool, .neq => some (.eqb true a b)
   | some (.pointer _), .eql => some (.eqp false a b)
   | some (.pointer _), .neq => some (.eqp true a b)
   | some (.struct fs), .eql => match tagsF P 0 fs.toList with
    | some ks => if P.stoodInHeld t = false ∧ P.eqGuardType P.depth t = false then some (.eqs false ks a b) else none
    | none => none
   | some (.struct fs), .neq => match tagsF P 0 fs.toList with
    | some ks => if P.stoodInHeld t = false ∧ P.eqGuardType P.depth t = false then some (.eqs true ks a b) else none
    | none => none
   | _, _ => none
  | _, _ => none
 | .unOp op _ x => (compX x).map (.un op)
 | .convert s d x => match P.underlying s, P.underlying d, compX x with
  | some (.int _), some (.int k), some y => some (.conv k y)
  | _, _, _ => none
 | .makeInterface t x => match P.underlying t with
  | some (.interface _) => none
  | some _ => (compX x).map (.mkif t)
  | none => none
 | .makeFunc f a b => match QD a.toList, QD b.toList with
  | some a, some b => some (.mkfn f a b)
  | _, _ => none
 | .makeSlice t l c => match P.underlying t, compX l, compX c with
  | some (.slice e), some x, some y => match sizeT P e, Xiy P e, zeroT P e with
   | some s, some b, some zs => match x, y with
    | .t m, .t n => if m = n ∧ 0 < s ∧ 0 < b ∧ zs.length = s then some (.mksl s b zs e (.t m)) else none
    | .k (.int j m), .k (.int j' n) => if m = n ∧ j = j' ∧ 0 < s ∧ 0 < b ∧ zs.length = s then some (.mksl s b zs e (.k (.int j m))) else none
    | _, _ => none
   | _, _, _ => none
  | _, _, _ => none
 | .slice t x lo hi mx => match P.underlying t, compX x, compO lo, compO hi, compO mx with
  | some (.slice e), some x, some lo, some hi, some mx => match sizeT P e with
   | some s => if 0 < s ∧ (mx.isNone = true ∨ hi.isSome = true) then some (.sl s x lo hi mx) else none
   | none => none
  | some .string, some x, some lo, some hi, some none => some (.ssl x lo hi)
  | _, _, _, _, _ => none
 | .fieldAddr t x i => match P.underlying t, compX x with
  | some (.struct fs), some y => match fs[i]? with
   | some f => match sizeT P f.type with
    | some (n + 1) => some (.fld f.offset y)
    | _ => none
   | none => none
  | _, _ => none
 | .field t x i => match P.underlying t, compX x with
  | some (.struct fs), some y => match fs[i]? with
   | some f => match sizeT P f.type, Qi P f.type with
    | some n, some true => some (.part f.offset n true y)
    | some 1, some false => some (.part f.offset 1 false y)
    | _, _ => none
   | none => none
  | _, _ => none
 | .indexAddr t x i => match P.underlying t, compX x, compX i with
  | some (.slice e), some x, some i => match sizeT P e with
   | some s => if 0 < s then some (.idx s x i) else none
   | none => none
  | some (.array len e), some x, some i => match sizeT P e with
   | some s => if 0 < s then some (.idxa s len x i) else none
   | none => none
  | _, _, _ => none
 | .index t x i => match P.underlying t, compX x, compX i with
  | some (.array len e), some x, some i => match sizeT P e, Qi P e with
   | some n, some true => some (.elem n len true x i)
   | some 1, some false => some (.elem 1 len false x i)
   | _, _ => none
  | some .string, some x, some i => some (.sidx x i)
  | _, _, _ => none
 | .extract x i => (compX x).map (.ext i)
 | .panic x => (compX x).map .pan
 | .nilCheck x => (compX x).map .nchk
 | .call c => match c.callee, QD c.args.toList with
  | .value (.func f), some xs => some (.call f xs)
  | .value (.tmp t), some xs => some (.callv (.t t) xs)
  | .builtin .len, some [x] => match (c.argTypes[0]?).bind P.underlying with
   | some .string => some (.len true x)
   | some (.slice _) => some (.len false x)
   | _ => none
  | .builtin .append, some [x, y] => match (c.argTypes[0]?).bind P.underlying, (c.argTypes[1]?).bind P.underlying with
   | some (.slice e), some (.slice _) => match sizeT P e, Xiy P e, zeroT P e with
    | some s, some b, some zs => if 0 < s ∧ 0 < b ∧ zs.length = s then some (.app s b e x y) else none
    | _, _, _ => none
   | _, _ => none
  | .builtin .min, some [x, y] => some (.minmax false x y)
  | .builtin .max, some [x, y] => some (.minmax true x y)
  | _, _ => none
 | _ => none

def flatF (P : Program) (fk : TypeId → Option (List Nat)) : Nat → List Field → Option (List Nat)
 | _, [] => some []
 | i, f :: fs => match fk f.type, sizeT P f.type, Qi P f.type with
  | some ks, some n, some _ => match flatF P fk (i + n) fs with
   | some ks' => if f.offset = i ∧ (f.name == "_") = false ∧ ks.length = n ∧ 0 < n then some (ks ++ ks') else none
   | none => none
  | _, _, _ => none
def flatK (P : Program) : Nat → TypeId → Option (List Nat)
 | 0, _ => none
 | d + 1, t => match P.underlying t with
  | some (.int _) => some [0]
  | some .bool => some [1]
  | some .string => some [2]
  | some (.struct fs) => if P.stoodInHeld t = false then flatF P (flatK P d) 0 fs.toList else none
  | some (.array len e) => match flatK P d e, sizeT P e, Qi P e with
   | some ks, some n, some _ => if ks.length = n ∧ 0 < n then some (List.replicate len ks).flatten else none
   | _, _, _ => none
  | _ => none
def keyT (P : Program) (k : TypeId) : Option (Bool × Nat) := match P.underlying k with
 | some (.int _) => some (false, 1)
 | some (.array len e) => match P.underlying e, sizeT P e with
  | some (.int _), some 1 => some (true, len)
  | _, _ => none
 | _ => none
def zero1 (P : Program) (e : TypeId) : Option AV := match P.info? e with
 | some i => match i.zero with
  | some z => absS z
  | none => none
 | none => none
def Xgz (P : Program) (o : Op) : AOp := match o with
 | .binOp op t x y _ => match compX x, compX y, flatK P 6 t, Qi P t with
  | some a, some b, some ks, some true => match P.eqGuardType P.depth t, op with
   | false, .eql => .eqs false ks a b
   | false, .neq => .eqs true ks a b
   | _, _ => .stuck
  | _, _, _, _ => .stuck
 | .makeMap t none => match P.underlying t with
  | some (.map _ _) => .mkmap
  | _ => .stuck
 | .makeMap t (some (.const (.int _ _))) => match P.underlying t with
  | some (.map _ _) => .mkmap
  | _ => .stuck
 | .lookup t x i ok => match P.underlying t, compX x, compX i with
  | some (.map k e), some a, some b => match keyT P k, zero1 P e with
   | some (g, n), some z => .mlk g n ok z a b
   | _, _ => .stuck
  | _, _, _ => .stuck
 | .mapUpdate t x i y => match P.underlying t, compX x, compX i, compX y with
  | some (.map k e), some a, some b, some c => match keyT P k with
   | some (g, n) => .mup g n a b c
   | none => .stuck
  | _, _, _, _ => .stuck
 | .insert t x i y => match P.underlying t, compX x, compX i, compX y with
  | some (.map k e), some a, some b, some c => match keyT P k with
   | some (g, n) => .mup g n a b c
   | none => .stuck
  | _, _, _, _ => .stuck
 | .call c => match c.callee, QD c.args.toList, (c.argTypes[0]?).bind P.underlying with
  | .builtin .len, some [x], some (.map _ _) => .mlen x
  | _, _, _ => .stuck
 | _ => .stuck
def Xk5 (P : Program) (o : Op) : AOp := match o with
 | .binOp op t x (.const (.slice none 0 0)) _ => match P.underlying t, compX x, op with
  | some (.slice _), some a, .eql => .isnil false a
  | some (.slice _), some a, .neq => .isnil true a
  | _, _, _ => .stuck
 | .binOp op t x (.const .nilIface) _ => match P.underlying t, compX x, op with
  | some (.interface _), some a, .eql => .ifnil false a
  | some (.interface _), some a, .neq => .ifnil true a
  | _, _, _ => .stuck
 | .typeAssert x _ t true => match P.underlying t, compX x with
  | some (.struct _), some a => .tas t a
  | _, _ => .stuck
 | o => Xgz P o
def Xce (P : Program) (o : Op) : Option AOp := match Xfx P o with
 | some x => some x
 | none => some (Xk5 P o)
def ZM (ops : Array Oper) (g : Option (Nat × Bool)) : Option (Option (Nat × Bool)) := match g with
 | none => some none
 | some (j, b) => match (ops[j]?).bind (·.dst) with
  | some d => some (some (d, b))
  | none => none
def JI (P : Program) (ops : Array Oper) : List Oper → Option (List IOp)
 | [] => some []
 | o :: os => match Xce P o.op, ZM ops o.guard, JI P ops os with
  | some x, some g, some xs => some (⟨o.dst, x, g⟩ :: xs)
  | _, _, _ => none
def uses : AOp → List Nat
 | .mov x | .box x _ | .load _ _ x | .fld _ x | .part _ _ _ x | .un _ x | .conv _ x | .mkif _ x | .mksl _ _ _ _ x | .len _ x | .ext _ x | .pan x | .nchk x | .isnil _ x | .ifnil _ x | .tas _ x | .mlen x => usesX [x]
 | .stuck | .mkmap => []
 | .pick c a b => usesX [c, a, b]
 | .new _ _ => []
 | .build _ ps => usesX (ps.map fun p => p.2.2)
 | .lits _ _ xs | .litr _ _ xs | .call _ xs => usesX xs
 | .store _ x y | .idx _ x y | .idxa _ _ x y | .elem _ _ _ x y | .sidx x y | .bin _ x y | .eqb _ x y | .eqp _ x y | .eqs _ _ x y | .app _ _ _ x y | .minmax _ x y | .mlk _ _ _ _ x y => usesX [x, y]
 | .mup _ _ x y z => usesX [x, y, z]
 | .mkfn _ a b => usesX (a ++ b)
 | .sl _ x a b c => usesX (x :: (a.toList ++ b.toList ++ c.toList))
 | .ssl x a b => usesX (x :: (a.toList ++ b.toList))
 | .callv x xs => usesX (x :: xs)
where
 usesX : List AX → List Nat
  | [] => []
  | .t n :: l => n :: usesX l
  | .k _ :: l => usesX l

def isE : AOp → Bool
 | .new _ _ | .box _ _ | .litr _ _ _ | .store _ _ _ | .mksl _ _ _ _ _ | .app _ _ _ _ _ | .call _ _ | .callv _ _ | .pan _ | .mkmap | .mup _ _ _ _ _ => true
 | _ => false
def isR : AOp → Bool
 | .load _ _ _ | .idx _ _ _ | .sl _ _ _ _ _ | .mlk _ _ _ _ _ _ | .mlen _ => true
 | _ => false

def befs : List Oper → List (List Nat) → List (List Nat)
 | [], acc => acc
 | o :: os, acc => befs os (acc ++ [((o.after.toList.filter (Region.binds .any)).flatMap fun e => e.on :: acc.getD e.on []).eraseDups])

def early (xs : List IOp) (bs : List (List Nat)) : Nat → List Nat → List Nat → List Nat
 | 0, _, done => done
 | n + 1, left, done =>
  let ready := left.filter fun i => (bs.getD i []).all (done.contains ·)
  match (ready.filter fun i => !((xs[i]?).map fun x => isE x.op).getD true) ++ ready with
  | [] => done
  | i :: _ => early xs bs n (left.filter (· != i)) (done ++ [i])

def JZ (x : IOp) : List Nat := match x.guard with
 | some (t, _) => [t]
 | none => []

def Xi0 (os : List Oper) (i : Nat) : List Nat := match os[i]? with
 | some o => (o.after.toList.filter (Region.binds .any)).map (·.on)
 | none => []
def befOk (os : List Oper) (bs : List (List Nat)) : Bool :=
 (List.range os.length).all fun i => ((Xi0 os i).all fun e => (bs.getD i []).contains e) && (bs.getD i []).all fun b => decide (b < os.length) && (Xi0 os i).any fun e => e == b || (bs.getD e []).contains b

def strip (y : DOp) : DOp := match isE y.o.op with
 | true => y
 | false => { y with bef := [] }
def Xoi (z y : DOp) : Bool :=
 z.ix != y.ix && !z.bef.contains y.ix && (y.bef.contains z.ix || (!isE z.o.op && (z.o.dst.isNone || z.o.dst != y.o.dst) &&
  ((uses z.o.op ++ JZ z.o).all fun t => y.o.dst != some t) && ((uses y.o.op ++ JZ y.o).all fun t => z.o.dst != some t) && (z.rd || !isR z.o.op || !isE y.o.op)))
def Xmk : List DOp → Bool
 | [] => true
 | z :: ys => !z.bef.contains z.ix && ys.all (Xoi z) && Xmk ys

def compD (P : Program) (ops : Array Oper) : Option (List DOp) := match JI P ops ops.toList with
 | some xs =>
  let bs := befs ops.toList []
  let ix := early xs bs xs.length (List.range xs.length) []
  let ys := ix.filterMap fun i => (xs[i]?).map fun x => (⟨x, i, bs.getD i [], isR x.op && (List.range xs.length).any fun j => ((xs[j]?).map fun z => isE z.op && !(bs.getD j []).contains i).getD false⟩ : DOp)
  if P.follows .mixedOrders = true ∧ ys.length ≤ ops.size ∧ befOk ops.toList bs = true ∧ Xmk ys = true ∧ ((List.range xs.length).all fun i => ys.any fun y => y.ix == i) = true then some (ys.map strip) else none
 | none => none
def Xbc (bs : List (List Nat)) (n a b : Nat) : List (List Nat) := (List.range n).map fun i => match i == b || (bs.getD i []).contains b with
 | true => bs.getD i [] ++ a :: bs.getD a []
 | false => bs.getD i []
def mkD (xs : List IOp) (bs : List (List Nat)) : List DOp := (early xs bs xs.length (List.range xs.length) []).filterMap fun i => (xs[i]?).map fun x => (⟨x, i, bs.getD i [], isR x.op && (List.range xs.length).any fun j => ((xs[j]?).map fun z => isE z.op && !(bs.getD j []).contains i).getD false⟩ : DOp)
def okDs (n : Nat) (ys : List DOp) : Bool := decide (ys.length ≤ n) && Xmk ys && (List.range n).all fun i => ys.any fun y => y.ix == i
def isEat (xs : List IOp) (i : Nat) : Bool := ((xs[i]?).map fun x => isE x.op).getD false
def pairE (xs : List IOp) (bs : List (List Nat)) : Option (Nat × Nat) :=
 let es := (List.range xs.length).filter (isEat xs)
 (es.flatMap fun a => (es.filter fun b => Nat.blt a b && !(bs.getD b []).contains a && !(bs.getD a []).contains b).map fun b => (a, b)).head?
def Xpr (P : Program) (ops : Array Oper) : Option (List DOp × List DOp) := match JI P ops ops.toList with
 | some xs =>
  let bs := befs ops.toList []
  let n := xs.length
  match pairE xs bs with
  | some (a, b) =>
   let yA := mkD xs (Xbc bs n a b)
   let yB := mkD xs (Xbc bs n b a)
   if P.follows .mixedOrders = true ∧ befOk ops.toList bs = true ∧ okDs n yA = true ∧ okDs n yB = true ∧ (bs.getD b []).contains a = false ∧ (bs.getD a []).contains b = false ∧ a < n ∧ b < n ∧ a ≠ b ∧
    ((List.range n).all fun i => !isEat xs i || i == a || i == b || ((bs.getD i []).contains a && (bs.getD i []).contains b)) = true then some (yA.map strip, yB.map strip) else none
  | none => none
 | none => none
def Jb (y : DOp) : Option (Nat × List AV × TypeId) := match y.o.dst, y.o.op, y.o.guard with
 | some d, .new zs t, none => some (d, zs, t)
 | _, _, _ => none
def Xnc (z y : DOp) : Bool :=
 z.ix != y.ix && !z.bef.contains y.ix && (y.bef.contains z.ix || Xoi z y || (isE z.o.op && (Jb y).isSome)) &&
 (match Jb y with
  | some (d, _, _) => ((uses z.o.op ++ JZ z.o).all fun s => s != d) && z.o.dst != some d
  | none => true) &&
 (match Jb z with
  | some (d, _, _) => y.o.dst != some d
  | none => true)
def Xk2 : List DOp → Bool
 | [] => true
 | z :: ys => !z.bef.contains z.ix && ys.all (Xnc z) && Xk2 ys
def newOk (ops : Array Oper) (y : DOp) : Bool := match Jb y with
 | some (_, _, t) => match ops[y.ix]? with
  | some o => match o.op with
   | .alloc e => e == t
   | _ => false
  | none => false
 | none => true
def Xpq (P : Program) (ops : Array Oper) : Option (List DOp) := match JI P ops ops.toList with
 | some xs =>
  let bs := befs ops.toList []
  let ys := mkD xs bs
  if P.follows .mixedOrders = true ∧ ys.length ≤ ops.size ∧ befOk ops.toList bs = true ∧ Xk2 ys = true ∧ ys.all (newOk ops) = true ∧ ((List.range xs.length).all fun i => ys.any fun y => y.ix == i) = true then some (ys.map strip) else none
 | none => none
def okNs (n : Nat) : List DOp → Prop
 | [] => True
 | y :: ys => (match Jb y with
  | some (d, _, _) => d < n
  | none => True) ∧ okNs n ys
def dfrOf (ops : Array Oper) : Option (Nat × FuncId × List Operand) := match ops.toList with
 | [⟨some d, .makeFunc (.func g) first caps, _, _, _, none⟩, ⟨none, .defer ⟨.value (.tmp d'), args, _⟩, _, _, _, none⟩] => if d = d' ∧ first.toList.length = 0 ∧ args.toList.length = 0 then some (d, g, caps.toList) else none
 | _ => none
def comp (P : Program) : Code → Option ACode
 | .skip => some .skip
 | .region _ ops false => match dfrOf ops with
  | some (d, g, caps) => (QD caps).map (.dfr d g)
  | none => (JI P ops ops.toList).map .reg
 | .region _ ops true => match compD P ops with
  | some ys => some (.regd ys)
  | none => match Xpr P ops with
   | some p => some (.regd2 p.1 p.2)
   | none => (Xpq P ops).map .regdn
 | .seq a b => match comp P a, comp P b with
  | some x, some y => some (.seq x y)
  | _, _ => none
 | .cond c a b => match compX c, comp P a, comp P b with
  | some c, some x, some y => some (.cond c x y)
  | _, _, _ => none
 | .block id a => (comp P a).map (.block id)
 | .loop a => (comp P a).map .loop
 | .exit id => some (.exit id)
 | .scope a => (comp P a).map .scope
 | .label l => some (.label l)
 | .goto l => some (.goto l)
 | .ret => some .ret
 | _ => none
end Go.Proofs.Ytcbhlpbkampfeaa.AI
