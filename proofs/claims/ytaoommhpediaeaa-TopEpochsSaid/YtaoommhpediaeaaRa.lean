/- An evaluator over values as trees and a small store, and what its values say of the machine's world. -/
import GoSem.Core.Code
import GoSem.Core.World
import GoSem.Core.View
import Derived.Maps.AppendAt
import Derived.Laws.OwnMore
import Derived.Laws.MakeOwn
import Derived.Below
import Derived.Calls
import GoSem.Core.Program
import GoSem.Core.Region
import GoSem.Machine.Exec
set_option linter.unusedVariables false
set_option linter.unusedSimpArgs false
set_option linter.defProp false

namespace Go.R

/-- Data that nobody writes: `slice g s es`: tag, cells of an element, the elements' cells. -/
inductive D where
  | bool (b : Bool)
  | int (k : IntKind) (n : Int)
  | str (s : ByteArray)
  | slice (g s : Nat) (es : List (List D))
  | agg (cs : List D)
  | cptr (g : Nat) (es : List D) (j : Nat)
  | func (fn : Fn) (fst caps : List D)
  | nilfunc
  | nilptr

/-- Values: data, references to own objects, and what is made of them. -/
inductive V where
  | d (x : D)
  | nil (E s : Nat)
  | own (k s N : Nat)
  | loc (k N i j : Nat)
  | mp (k : Nat)
  | nilmp
  | agg (cs : List V)
  | tup (vs : List V)
  | func (fn : Fn) (fst caps : List V)
  | junk
  /-- a bool, not known which -/
  | ub
  /-- what an operation that was left out leaves -/
  | un

inductive Ob where
  | grow (m : Bool) (E s : Nat) (ds : List (List D))
  | row (m : Bool) (E s : Nat) (es : List (List V))
  | map (ents : List (D × V))

inductive Opd where
  | t (i : Nat)
  | k (v : V)

inductive AOp where
  | mv (x : Opd)
  | nilv (E s : Nat)
  | pick (c a b : Opd)
  | nbox (E : Nat) (zs : List V)
  | box (E n : Nat) (x : Opd)
  | build (zs : List V) (ps : List (Nat × Nat × Opd))
  | bsl (E s len : Nat) (zs : List V) (ps : List (Nat × Opd))
  | ld (n : Nat) (agg : Bool) (a : Opd)
  | st (n : Nat) (a x : Opd)
  | bin (op : BinOp) (x y : Opd)
  | beq (neg : Bool) (x y : Opd)
  | isn (neg : Bool) (x : Opd)
  | eqa (neg : Bool) (ks : List Nat) (x y : Opd)
  | un (op : UnOp) (x : Opd)
  | fa (off : Nat) (a : Opd)
  | fld (off n : Nat) (agg : Bool) (x : Opd)
  | ia (s : Nat) (x i : Opd)
  | slc (s : Nat) (x : Opd) (lo hi : Option Opd)
  | mks (E s bytes : Nat) (zs : List V) (l c : Opd)
  | ext (i : Nat) (x : Opd)
  | call (f : Opd) (xs : List Opd)
  | len (str : Bool) (x : Opd)
  | app (E s bytes : Nat) (x y : Opd)
  | mx (xs : List Opd)
  | mn (xs : List Opd)
  | mkf (fn : Fn) (fst caps : List Opd)
  | mkmap
  | lkp (ok : Bool) (kk : Nat) (zs : V) (m k : Opd)
  | mup (kk : Nat) (m k v : Opd)

structure AI where
  dst : Option Nat
  op : AOp
  g : Option (Nat × Bool)

inductive AC where
  | skip
  | rg (ops : List AI)
  | rgd (ops : List AI) (pairs : List (Nat × Nat))
  | seq (a b : AC)
  | cond (c : Opd) (a b : AC)
  | both (p : AC) (c : Opd) (a b k : AC)
  | blk (id : Nat) (a : AC)
  | lp (a : AC)
  | exit (id : Nat)
  | ret
  | kl (live : List Nat) (a : AC)
  | att (x : Opd) (kk : Nat) (key : Opd) (a : AC)

inductive Ex where
  | normal
  | exit (id : Nat)
  | ret

def upd {α : Type} (f : Nat → α) (i : Nat) (v : α) : Nat → α := fun j => if j = i then v else f j

abbrev Store := Nat → Option Ob

structure St where
  T : Nat → V
  S : Store
  n : Nat

def ev (T : Nat → V) : Opd → V
  | .t i => T i
  | .k v => v

/-! ### cells -/
def allD : List V → Option (List D)
  | [] => some []
  | .d x :: r => match allD r with | some l => some (x :: l) | none => none
  | _ :: _ => none

def mkAgg (cs : List V) : V := match allD cs with | some l => .d (.agg l) | none => .agg cs

/-- The cells of a value that a variable may hold. -/
def cellsV : V → Option (List V)
  | .d (.agg cs) => some (cs.map .d)
  | .agg cs => some cs
  | .tup _ => none
  | .junk => none
  | .ub => none
  | .un => none
  | x => some [x]

def mapO {α β : Type} (f : α → Option β) : List α → Option (List β)
  | [] => some []
  | x :: r => match f x, mapO f r with
    | some y, some l => some (y :: l)
    | _, _ => none

/-- Cells as they are written into memory: each nil slice becomes an empty row of its own. -/
def ownNils (n : Nat) : List V → List V × List Ob
  | [] => ([], [])
  | .nil E s :: r => let q := ownNils (n + 1) r; (.own n s 0 :: q.1, .grow true E s [] :: q.2)
  | x :: r => let q := ownNils n r; (x :: q.1, q.2)

def mkRow (m : Bool) (E s : Nat) (e : List V) : Ob :=
  match allD e with | some l => .grow m E s [l] | none => .row m E s [e]

def rowEs : Ob → Option (Bool × Nat × Nat × List (List V))
  | .grow m E s ds => some (m, E, s, ds.map (·.map .d))
  | .row m E s es => some (m, E, s, es)
  | .map _ => none

def obN : Ob → Nat
  | .grow _ _ _ ds => ds.length
  | .row _ _ _ es => es.length
  | .map _ => 0

/-- An address moved on within an element. -/
def faV (off : Nat) : V → Option V
  | .loc k N i j => some (.loc k N i (j + off))
  | .d (.cptr g es j) => some (.d (.cptr g es (j + off)))
  | _ => none

/-- Some cells as one value. -/
def sub (n j : Nat) (agg : Bool) (cs : List V) : Option V :=
  if agg then (if j + n ≤ cs.length then some (mkAgg ((cs.drop j).take n)) else none) else cs[j]?
def subD (n j : Nat) (agg : Bool) (cs : List D) : Option V :=
  if agg then (if j + n ≤ cs.length then some (.d (.agg ((cs.drop j).take n))) else none) else (cs[j]?).map .d

def iaV (s : Nat) : V → V → Option V
  | .d (.slice g s' es), .d (.int _ k) => if s' = s ∧ 0 ≤ k then (es[k.toNat]?).map fun e => .d (.cptr g e 0) else none
  | .own o s' N, .d (.int _ k) => if s' = s ∧ 0 ≤ k ∧ k < N then some (.loc o N k.toNat 0) else none
  | _, _ => none

def slcV (s : Nat) : V → V → Option V → Option V
  | .d (.slice g s' es), .d (.int _ l), none => if s' = s ∧ 0 ≤ l ∧ l ≤ es.length then some (.d (.slice g s (es.drop l.toNat))) else none
  | .d (.slice g s' es), .d (.int _ l), some (.d (.int _ h)) => if s' = s ∧ 0 ≤ l ∧ l ≤ h ∧ h ≤ es.length then some (.d (.slice g s ((es.take h.toNat).drop l.toNat))) else none
  | _, _, _ => none

def loV (ρ : Opd → V) : Option Opd → V
  | some l => ρ l
  | none => .d (.int .i64 0)

/-- Cell `j`.. of element `i`. -/
def rdOb (N i j cnt : Nat) (agg : Bool) : Ob → Option V
  | .grow _ _ _ ds => if ds.length = N then
      match ds[i]? with
      | some e => subD cnt j agg e
      | none => none
    else none
  | .row _ _ _ es => if es.length = N then
      match es[i]? with
      | some e => sub cnt j agg e
      | none => none
    else none
  | .map _ => none

/-- `xs` with `ys` from `j` on. -/
def splice {α : Type} (xs : List α) (j : Nat) (ys : List α) : List α := xs.take j ++ ys ++ xs.drop (j + ys.length)

def wrOb (N i j : Nat) (cs : List V) : Ob → Option Ob
  | .grow true E s ds => if ds.length = N then
      match ds[i]? with
      | some e => if j + cs.length ≤ e.length then
          (match allD cs with
           | some l => some (.grow true E s (ds.set i (splice e j l)))
           | none => some (.row true E s ((ds.map (·.map .d)).set i (splice (e.map .d) j cs))))
        else none
      | none => none
    else none
  | .row true E s es => if es.length = N then
      match es[i]? with
      | some e => if j + cs.length ≤ e.length then some (.row true E s (es.set i (splice e j cs))) else none
      | none => none
    else none
  | _ => none

/-! ### comparing -/
def eqD : D → D → Option Bool
  | .bool a, .bool b => some (a == b)
  | .int j a, .int k b => if j = k then some (a == b) else none
  | .str a, .str b => some (a == b)
  | _, _ => none
/-- Cells of a struct of scalars: kinds 0 bool, 1 whole number, 2 string. -/
def eqK (k : Nat) : D → D → Option Bool
  | .bool a, .bool b => if k = 0 then some (a == b) else none
  | .int j a, .int j' b => if k = 1 ∧ j = j' then some (a == b) else none
  | .str a, .str b => if k = 2 then some (a == b) else none
  | _, _ => none
def eqDs : List Nat → List D → List D → Option Bool
  | [], [], [] => some true
  | k :: ks, x :: xs, y :: ys => match eqK k x y, eqDs ks xs ys with | some a, some b => some (a && b) | _, _ => none
  | _, _, _ => none

def intBin (op : BinOp) (k : IntKind) (a b : Int) : Option D :=
  match op with
  | .add => some (.int k (k.wrap (a + b)))
  | .sub => some (.int k (k.wrap (a - b)))
  | .mul => some (.int k (k.wrap (a * b)))
  | .quo => if b = 0 then none else some (.int k (k.wrap (a.tdiv b)))
  | .rem => if b = 0 then none else some (.int k (a.tmod b))
  | .eql => some (.bool (a == b))
  | .neq => some (.bool (a != b))
  | .lss => some (.bool (decide (a < b)))
  | .leq => some (.bool (decide (a ≤ b)))
  | .gtr => some (.bool (decide (a > b)))
  | .geq => some (.bool (decide (a ≥ b)))
  | _ => none

def binV (op : BinOp) : V → V → Option V
  | .d (.int j a), .d (.int k b) => if j = k then (intBin op j a b).map .d else none
  | .d (.str a), .d (.str b) => match op with
    | .eql => some (.d (.bool (a.toList == b.toList)))
    | .neq => some (.d (.bool (!(a.toList == b.toList))))
    | _ => none
  | _, _ => none

def beqV (neg : Bool) : V → V → Option V
  | .d (.bool a), .d (.bool b) => some (.d (.bool (if neg then !(a == b) else a == b)))
  | _, _ => none

/-- Is a slice nil? Of an empty one that is not known. -/
def isnV (neg : Bool) : V → Option V
  | .nil _ _ => some (.d (.bool !neg))
  | .own _ _ N => if N = 0 then some .ub else some (.d (.bool neg))
  | .d (.slice _ _ es) => match es with | [] => some .ub | _ :: _ => some (.d (.bool neg))
  | _ => none

def unV (op : UnOp) : V → Option V
  | .d (.bool b) => match op with | .not => some (.d (.bool !b)) | _ => none
  | .d (.int k n) => match op with | .neg => some (.d (.int k (k.wrap (0 - n)))) | _ => none
  | _ => none

def eqaV (neg : Bool) (ks : List Nat) : V → V → Option V
  | .d (.agg xs), .d (.agg ys) => (eqDs ks xs ys).map fun b => .d (.bool (if neg then !b else b))
  | _, _ => none

def lenV : Bool → V → Option Nat
  | false, .d (.slice _ _ es) => some es.length
  | true, .d (.str s) => some s.size
  | false, .nil _ _ => some 0
  | false, .own _ _ N => some N
  | _, _ => none

def maxI : V → V → Option V
  | .d (.int k a), .d (.int k' b) => if k = k' then some (.d (.int k (if b > a then b else a))) else none
  | _, _ => none
def minI : V → V → Option V
  | .d (.int k a), .d (.int k' b) => if k = k' then some (.d (.int k (if b < a then b else a))) else none
  | _, _ => none
def foldV (f : V → V → Option V) : V → List V → Option V
  | x, [] => some x
  | x, y :: r => match f x y with | some z => foldV f z r | none => none

def mkFunc (fn : Fn) (fst caps : List V) : V :=
  match allD fst, allD caps with
  | some a, some b => .d (.func fn a b)
  | _, _ => .func fn fst caps

def fillCells : List V → List (Nat × Nat × List V) → Option (List V)
  | zs, [] => some zs
  | zs, (off, sz, cs) :: r => if cs.length = sz ∧ off + sz ≤ zs.length then fillCells (splice zs off cs) r else none

def isSc : D → Bool
  | .bool _ => true
  | .int _ _ => true
  | .str _ => true
  | _ => false

def lookupE (kk : Nat) (k : D) : List (D × V) → Option (Option V)
  | [] => some none
  | (k', v) :: r => match eqK kk k k' with
    | some true => some (some v)
    | some false => lookupE kk k r
    | none => none
def updateE (kk : Nat) (k : D) (v : V) : List (D × V) → Option (List (D × V))
  | [] => some [(k, v)]
  | (k', v') :: r => match eqK kk k k' with
    | some true => some ((k, v) :: r)
    | some false => (updateE kk k v r).map ((k', v') :: ·)
    | none => none

/-! ### an operation's request: the objects that it touches, and what it does to them -/
structure Req where
  ids : List Nat
  act : List Ob → Option (V × List Ob × List Ob)

def rq (v : V) : Option Req := some ⟨[], fun _ => some (v, [], [])⟩
def rqo (v : Option V) : Option Req := v.map fun v => ⟨[], fun _ => some (v, [], [])⟩

def roomB : Nat := 140737488355328

def appEs (s : Nat) : V → List Ob → Option (List (List V))
  | .d (.slice _ s' es), _ => if s' = s ∨ es = [] then some (es.map (·.map .d)) else none
  | .nil _ _, _ => some []
  | .own _ _ N, [o] => match rowEs o with
    | some (_, _, s', es) => if s' = s ∧ es.length = N then some es else none
    | none => none
  | _, _ => none

def idsApp : V → List Nat
  | .own k _ _ => [k]
  | _ => []

/-- A row with elements behind its own. -/
def grown (E s bytes N : Nat) (ys : List (List V)) (yd : Option (List (List D))) : Ob → Option Ob
  | .grow true E' s' ds => if E' = E ∧ s' = s ∧ ds.length = N ∧ (N + ys.length) * bytes ≤ roomB then
      (match yd with
       | some l => some (.grow true E s (ds ++ l))
       | none => some (.row true E s (ds.map (·.map .d) ++ ys)))
    else none
  | .row true E' s' es => if E' = E ∧ s' = s ∧ es.length = N ∧ (N + ys.length) * bytes ≤ roomB then some (.row true E s (es ++ ys)) else none
  | _ => none

def newRow (E s : Nat) (ys : List (List V)) (yd : Option (List (List D))) : Ob :=
  match yd with
  | some l => .grow true E s l
  | none => .row true E s ys

/-- What is appended, as data if it is. -/
def appDs : V → List Ob → Option (List (List D))
  | .d (.slice _ _ es), _ => some es
  | .nil _ _, _ => some []
  | .own _ _ _, [.grow _ _ _ ds] => some ds
  | _, _ => none

def aop (n : Nat) (o : AOp) (ρ : Opd → V) : Option Req :=
  match o with
  | .mv x => rq (ρ x)
  | .nilv E s => some ⟨[], fun _ => some (.own n s 0, [], [.grow true E s []])⟩
  | .pick c a b => match ρ c with
    | .d (.bool x) => rq (if x then ρ a else ρ b)
    | _ => none
  | .nbox E zs => let q := ownNils n zs; some ⟨[], fun _ => some (.loc (n + q.2.length) 1 0 0, [], q.2 ++ [mkRow true E zs.length q.1])⟩
  | .box E m x => match cellsV (ρ x) with
    | some cs => if cs.length = m then
        (let q := ownNils n cs
         some ⟨[], fun _ => some (.loc (n + q.2.length) 1 0 0, [], q.2 ++ [mkRow true E m q.1])⟩)
      else none
    | none => none
  | .build zs ps => match mapO (fun p : Nat × Nat × Opd => (cellsV (ρ p.2.2)).map fun cs => (p.1, p.2.1, cs)) ps with
    | some l => rqo ((fillCells zs l).map mkAgg)
    | none => none
  | .bsl E s len zs ps =>
    if len * s ≤ 16777216 ∧ 0 < s ∧ zs.length = s then
      match (mapO (fun p : Nat × Opd => (cellsV (ρ p.2)).map fun cs => (p.1 * s, s, cs)) ps).bind (fillCells ((List.replicate len zs).flatten)) with
      | some cs =>
        let es := (List.range len).map fun i => (cs.drop (i * s)).take s
        some ⟨[], fun _ => some (.own n s len, [], [match allD cs with
          | some l => .grow true E s ((List.range len).map fun i => (l.drop (i * s)).take s)
          | none => .row true E s es])⟩
      | none => none
    else none
  | .ld cnt agg a => match ρ a with
    | .d (.cptr _ es j) => rqo (subD cnt j agg es)
    | .loc k N i j => some ⟨[k], fun | [o] => (rdOb N i j cnt agg o).map fun v => (v, [o], []) | _ => none⟩
    | _ => none
  | .st m a x => match ρ a with
    | .loc k N i j =>
      match cellsV (ρ x) with
      | some cs => if cs.length = m then
          (let q := ownNils n cs
           some ⟨[k], fun | [o] => (wrOb N i j q.1 o).map fun o' => (.junk, [o'], q.2) | _ => none⟩)
        else none
      | none => none
    | _ => none
  | .bin op x y => rqo (binV op (ρ x) (ρ y))
  | .beq neg x y => rqo (beqV neg (ρ x) (ρ y))
  | .isn neg x => rqo (isnV neg (ρ x))
  | .eqa neg ks x y => rqo (eqaV neg ks (ρ x) (ρ y))
  | .un op x => rqo (unV op (ρ x))
  | .fa off a => rqo (faV off (ρ a))
  | .fld off cnt agg x => match ρ x with
    | .d (.agg cs) => rqo (subD cnt off agg cs)
    | .agg cs => rqo (sub cnt off agg cs)
    | _ => none
  | .ia s x i => rqo (iaV s (ρ x) (ρ i))
  | .slc s x lo hi => rqo (slcV s (ρ x) (loV ρ lo) (hi.map ρ))
  | .mks E s bytes zs l c => match ρ l, ρ c with
    | .d (.int _ a), .d (.int _ b) =>
      if a = b ∧ 0 ≤ a ∧ a * bytes ≤ roomB ∧ 0 < s ∧ zs.length = s ∧ a ≤ 4611686018427387904 then
        some ⟨[], fun _ => some (.own n s a.toNat, [], [match allD zs with
          | some z => .grow true E s (List.replicate a.toNat z)
          | none => .row true E s (List.replicate a.toNat zs)])⟩
      else none
    | _, _ => none
  | .ext i x => match ρ x with
    | .tup vs => rqo vs[i]?
    | _ => none
  | .call _ _ => none
  | .len b x => rqo ((lenV b (ρ x)).map fun k : Nat => V.d (.int .i64 (k : Int)))
  | .app E s bytes x y =>
    match ρ x with
    | .nil _ _ => some ⟨idsApp (ρ y), fun os => match appEs s (ρ y) os with
      | some ys => if ys.length * bytes ≤ roomB then some (.own n s ys.length, os, [newRow E s ys (appDs (ρ y) os)]) else none
      | none => none⟩
    | .own k s' N => if s' = s ∧ k ∉ idsApp (ρ y) then
        some ⟨k :: idsApp (ρ y), fun
          | o :: os => match appEs s (ρ y) os with
            | some ys => (grown E s bytes N ys (appDs (ρ y) os) o).map fun o' => (.own k s (N + ys.length), o' :: os, [])
            | none => none
          | [] => none⟩
      else none
    | _ => none
  | .mx xs => match xs with | [] => none | x :: r => rqo (foldV maxI (ρ x) (r.map ρ))
  | .mn xs => match xs with | [] => none | x :: r => rqo (foldV minI (ρ x) (r.map ρ))
  | .mkf fn fst caps => rq (mkFunc fn (fst.map ρ) (caps.map ρ))
  | .mkmap => some ⟨[], fun _ => some (.mp n, [], [.map []])⟩
  | .lkp ok kk zs m k => match ρ m, ρ k with
    | .mp i, .d x => if isSc x = false then none else some ⟨[i], fun
      | [.map es] => match lookupE kk x es with
        | some (some v) => some (if ok then .tup [v, .d (.bool true)] else v, [.map es], [])
        | some none => some (if ok then .tup [zs, .d (.bool false)] else zs, [.map es], [])
        | none => none
      | _ => none⟩
    | _, _ => none
  | .mup kk m k v => match ρ m, ρ k with
    | .mp i, .d x => if isSc x = false then none else some ⟨[i], fun | [.map es] => (updateE kk x (ρ v) es).map fun es' => (.junk, [.map es'], []) | _ => none⟩
    | _, _ => none

end Go.R

namespace Go.R

mutual
def scalD : D → Bool
  | .bool _ => true
  | .int _ _ => true
  | .str _ => true
  | .slice _ _ _ => false
  | .agg cs => scalDs cs
  | .cptr _ _ _ => false
  | .func _ _ _ => false
  | .nilfunc => true
  | .nilptr => true
def scalDs : List D → Bool
  | [] => true
  | x :: r => scalD x && scalDs r
end
mutual
/-- No data slice or pointer in it: it shares nothing with what was lent. -/
def scalV : V → Bool
  | .d x => scalD x
  | .agg cs => scalVs cs
  | .tup cs => scalVs cs
  | .func _ _ _ => false
  | _ => true
def scalVs : List V → Bool
  | [] => true
  | x :: r => scalV x && scalVs r
end
def scalOb : Ob → Bool
  | .grow _ _ _ ds => ds.all scalDs
  | _ => false

/-! ### own things as data -/
def lendV : Nat → Store → V → Option D
  | _, _, .d x => some x
  | _, _, .nil _ s => some (.slice 0 s [])
  | k + 1, S, .own o s N => match S o with
    | some (.grow _ _ s' ds) => if ds.length = N ∧ s' = s then some (.slice 0 s ds) else none
    | some (.row _ _ s' es) => if es.length = N ∧ s' = s then (mapO (mapO (lendV k S)) es).map (.slice 0 s) else none
    | _ => none
  | k + 1, S, .loc o N i j => match S o with
    | some (.grow _ _ _ ds) => if ds.length = N then (ds[i]?).map fun e => .cptr 0 e j else none
    | some (.row _ _ _ es) => if es.length = N then (match es[i]? with | some e => (mapO (lendV k S) e).map fun e => .cptr 0 e j | none => none) else none
    | _ => none
  | k + 1, S, .agg cs => (mapO (lendV k S) cs).map .agg
  | k + 1, S, .func fn fst caps => match mapO (lendV k S) fst, mapO (lendV k S) caps with
    | some a, some b => some (.func fn a b)
    | _, _ => none
  | _, _, _ => none

def lendR (k : Nat) (S : Store) : V → Option V
  | .tup vs => (mapO (lendV k S) vs).map fun l => .tup (l.map .d)
  | v => (lendV k S v).map .d

/-- The objects that a value leads to, each with what it leads to. -/
def refsV : Nat → Store → V → List Nat
  | k + 1, S, .own o _ _ => o :: (match S o with | some (.row _ _ _ es) => es.flatMap (·.flatMap (refsV k S)) | _ => [])
  | k + 1, S, .loc o _ _ _ => o :: (match S o with | some (.row _ _ _ es) => es.flatMap (·.flatMap (refsV k S)) | _ => [])
  | k + 1, S, .agg cs => cs.flatMap (refsV k S)
  | k + 1, S, .func _ fst caps => fst.flatMap (refsV k S) ++ caps.flatMap (refsV k S)
  | _, _, _ => []

def freezeOb (k : Nat) (S : Store) (ids : List Nat) : Ob → Option Ob
  | .grow _ E s ds => some (.grow false E s ds)
  | .row _ E s es => if (es.all fun e => e.all fun x => (refsV k S x).all fun i => ids.contains i) = true then (mapO (mapO (lendV k S)) es).map fun ds => .grow false E s ds else none
  | .map _ => none

def freeze (k : Nat) (S : Store) (ids : List Nat) : Store := fun o => if o ∈ ids then (S o).bind (freezeOb k S ids) else S o

/-- A row of data that may be written: what a call may hand over. -/
def isGrow : Ob → Bool
  | .grow m _ _ _ => m
  | _ => false

/-! ### references shifted -/
mutual
def shV (n : Nat) : V → V
  | .d x => .d x
  | .nil E s => .nil E s
  | .own k s N => .own (n + k) s N
  | .loc k N i j => .loc (n + k) N i j
  | .mp k => .mp (n + k)
  | .nilmp => .nilmp
  | .agg cs => .agg (shVs n cs)
  | .tup cs => .tup (shVs n cs)
  | .func fn a b => .func fn (shVs n a) (shVs n b)
  | .junk => .junk
  | .ub => .ub
  | .un => .un
def shVs (n : Nat) : List V → List V
  | [] => []
  | x :: r => shV n x :: shVs n r
end

def putNew (S : Store) (n : Nat) : List Ob → Store
  | [] => S
  | o :: r => putNew (upd S n (some o)) (n + 1) r

/-! ### numbers of rows that lie in a cell of another object -/
def BB : Nat := 18446744073709551616
def cid (k p : Nat) : Nat := BB * (k + 1) + p
/-- The numbers that are kept when a loop's round ends: those below m, and those of rows in their cells. -/
def kp (m q : Nat) : Bool := decide (q < m) || (decide (BB ≤ q) && decide (q / BB - 1 < m))

/-! ### loops leave nothing of a round behind -/
def gcV (S : Store) (m : Nat) : V → V
  | .d x => .d x
  | .own k s N => if kp m k = true then .own k s N else if ((refsV 8 S (.own k s N)).all fun i => !kp m i) = true then (match lendV 8 S (.own k s N) with | some x => .d x | none => .junk) else .junk
  | .loc k N i j => if kp m k = true then .loc k N i j else .junk
  | .mp k => if kp m k = true then .mp k else .junk
  | .nil E s => .nil E s
  | .nilmp => .nilmp
  | _ => .junk
def gcC (S : Store) (m : Nat) : V → V
  | .agg cs => mkAgg (cs.map (gcV S m))
  | x => gcV S m x
def gcOb (S : Store) (m : Nat) : Ob → Ob
  | .grow b E s ds => .grow b E s ds
  | .row b E s es => .row b E s (es.map (·.map (gcV S m)))
  | .map ents => .map (ents.map fun p => (p.1, gcC S m p.2))

def gc (m : Nat) (st : St) : St :=
  { T := fun i => gcC st.S m (st.T i), S := fun k => if kp m k = true then (st.S k).map (gcOb st.S m) else none, n := m }

/-! ### a row is moved to the number of the cell that it lies in -/
def attRow (S : Store) (k p : Nat) (m : Bool) (E s : Nat) (es : List (List V)) : Store :=
  match es[p / s]? with
  | none => S
  | some e => match e[p % s]? with
    | some (.own q s' N) => match S q with
      | some o => match rowEs o with
        | some (_, _, s2, es2) =>
          if m = true ∧ q < BB ∧ q ≠ k ∧ k < BB ∧ p < BB ∧ es2.length = N ∧ s2 = s' ∧ (S (cid k p)).isNone = true then
            upd (upd (upd S q none) (cid k p) (some o)) k (some (.row m E s (es.set (p / s) (e.set (p % s) (.own (cid k p) s' N)))))
          else S
        | none => S
      | none => S
    | _ => S
def attMap (S : Store) (k p : Nat) (ents : List (D × V)) : Store :=
  match ents[p]? with
  | some (x, .own q s' N) => match S q with
    | some o => match rowEs o with
      | some (_, _, s2, es2) =>
        if q < BB ∧ q ≠ k ∧ k < BB ∧ p < BB ∧ es2.length = N ∧ s2 = s' ∧ (S (cid k p)).isNone = true then
          upd (upd (upd S q none) (cid k p) (some o)) k (some (.map (ents.set p (x, .own (cid k p) s' N))))
        else S
      | none => S
    | none => S
  | _ => S

def keyPos (kk : Nat) (k : D) : List (D × V) → Nat
  | [] => 0
  | (k', _) :: r => if eqK kk k k' = some true then 0 else keyPos kk k r + 1

def attach (S : Store) (x : V) (kk : Nat) (key : V) : Store :=
  match x with
  | .loc k _ i j => match S k with
    | some (.row m E s es) => if j < s then attRow S k (i * s + j) m E s es else S
    | _ => S
  | .mp k => match key, S k with
    | .d y, some (.map ents) => attMap S k (keyPos kk y ents) ents
    | _, _ => S
  | _ => S

/-! ### configuration -/
inductive Rs where
  | tmp (t : Nat)
  | cell (a n : Nat) (agg : Bool)

structure FnI where
  code : AC
  np : Nat
  nt : Nat
  res : List Rs

structure Cfg where
  fn : Nat → Option FnI
  intr : Nat → Option (List D → Option (V × List Ob))
  /-- functions whose results keep their own rows -/
  keep : Nat → Bool

abbrev CallF := FuncId → List D → Option (V × List Ob)

def callee : V → Option (FuncId × List V × List V)
  | .d (.func (.func f) fst caps) => some (f, fst.map .d, caps.map .d)
  | .func (.func f) fst caps => some (f, fst, caps)
  | _ => none

def putT (T : Nat → V) (d : Option Nat) (v : V) : Nat → V := match d with | some i => upd T i v | none => T

def putAll (S : Store) : List Nat → List Ob → Store
  | k :: ks, o :: os => putAll (upd S k (some o)) ks os
  | _, _ => S

/-- What a step touches: the objects, whether it may change them, and the numbers that it gives away: from n up to m. -/
structure Fp where
  ids : List Nat
  w : Bool
  n : Nat
  m : Nat

def wants (T : Nat → V) : Option (Nat × Bool) → Option Bool
  | none => some true
  | some (t, b) => match T t with | .d (.bool x) => some (x == b) | .un => some false | _ => none

def isSt : AOp → Bool
  | .st _ _ _ => true
  | .app _ _ _ _ _ => true
  | .mup _ _ _ _ => true
  | _ => false

/-- The caller's objects behind a call: what was lent is frozen, unless what comes back shares nothing with it. -/
def lentS (r : V) (os : List Ob) (S : Store) (ids : List Nat) : Store := if ids = [] ∨ (scalV r && os.all scalOb) = true then S else freeze 8 S ids

def doCall (call : CallF) (st : St) (d : Option Nat) (f : V) (xs : List V) : Option (St × Fp) :=
  match callee f with
  | none => none
  | some (g, fst, caps) =>
    match mapO (lendV 8 st.S) (fst ++ xs ++ caps) with
    | none => none
    | some ds => match call g ds with
      | none => none
      | some (r, os) =>
        if os.all isGrow = true ∧ (((fst ++ xs ++ caps).flatMap (refsV 8 st.S)).all fun o => (lentS r os st.S ((fst ++ xs ++ caps).flatMap (refsV 8 st.S)) o).isSome) = true then
          some ({ T := putT st.T d (shV st.n r), S := putNew (lentS r os st.S ((fst ++ xs ++ caps).flatMap (refsV 8 st.S))) st.n os, n := st.n + os.length }, ⟨(fst ++ xs ++ caps).flatMap (refsV 8 st.S), true, st.n, st.n + os.length⟩)
        else none

def stepI (call : CallF) (i : AI) (st : St) : Option (St × Fp) :=
  match wants st.T i.g with
  | none => none
  | some false => some ({ st with T := putT st.T i.dst .un }, ⟨[], false, st.n, st.n⟩)
  | some true =>
    match i.op with
    | .call f xs => doCall call st i.dst (ev st.T f) (xs.map (ev st.T))
    | op => match aop st.n op (ev st.T) with
      | none => none
      | some r => match mapO st.S r.ids with
        | none => none
        | some os => match r.act os with
          | none => none
          | some (v, os', news) =>
            some ({ T := putT st.T i.dst v, S := putNew (putAll st.S r.ids os') st.n news, n := st.n + news.length }, ⟨r.ids, isSt op, st.n, st.n + news.length⟩)

def ops (call : CallF) : List AI → St → Option (St × List Fp)
  | [], st => some (st, [])
  | i :: r, st => match stepI call i st with
    | none => none
    | some (st', f) => match ops call r st' with
      | none => none
      | some (st'', fs) => some (st'', f :: fs)

/-- Two steps whose order is open, `a` first in the text, may not both touch an object that one of them may change, nor what the other makes. -/
def apartF (a b : Fp) : Bool := ((!a.w && !b.w) || a.ids.all fun k => !b.ids.contains k) && (b.ids.all fun k => decide (k < a.n ∨ a.m ≤ k)) && a.ids.all fun k => decide (k < b.n ∨ b.m ≤ k)

def pairsOk (fs : List Fp) (ps : List (Nat × Nat)) : Bool := ps.all fun p => apartF (fs.getD p.1 ⟨[], false, 0, 0⟩) (fs.getD p.2 ⟨[], false, 0, 0⟩)

def loopN (f : St → Option (Ex × St)) (m : Nat) : Nat → St → Option (Ex × St)
  | 0, _ => none
  | k + 1, st => match f st with
    | none => none
    | some (.normal, st') => loopN f m k (gc m st')
    | some (e, st') => some (e, st')

/-- Only these temporaries are still wanted. -/
def keepT (live : List Nat) (T : Nat → V) : Nat → V := fun i => if live.contains i = true then T i else .junk

/-- One code behind the other. -/
def thenX (f g : St → Option (Ex × St)) (st : St) : Option (Ex × St) :=
  match f st with
  | none => none
  | some (.normal, st') => g st'
  | some (e, st') => some (e, st')

open Classical in
/-- Two codes, if it is not known which: they must come to the same. -/
noncomputable def same (x y : Option (Ex × St)) : Option (Ex × St) := if x = y then x else none

noncomputable def exec (call : CallF) (lf : Nat) : AC → St → Option (Ex × St)
  | .skip, st => some (.normal, st)
  | .rg l, st => match ops call l st with
    | some (st', _) => if st'.n ≤ BB then some (.normal, st') else none
    | none => none
  | .rgd l ps, st => match ops call l st with
    | some (st', fs) => if pairsOk fs ps = true ∧ st'.n ≤ BB then some (.normal, st') else none
    | none => none
  | .seq a b, st => match exec call lf a st with
    | none => none
    | some (.normal, st') => exec call lf b st'
    | some (e, st') => some (e, st')
  | .cond c a b, st => match ev st.T c with
    | .d (.bool x) => if x then exec call lf a st else exec call lf b st
    | _ => none
  | .both p c a b k, st => match exec call lf p st with
    | some (.normal, st) => (match ev st.T c with
      | .d (.bool x) => thenX (if x then exec call lf a else exec call lf b) (exec call lf k) st
      | .ub => same (thenX (exec call lf a) (exec call lf k) st) (thenX (exec call lf b) (exec call lf k) st)
      | _ => none)
    | _ => none
  | .blk id a, st => match exec call lf a st with
    | none => none
    | some (.exit i, st') => if i = id then some (.normal, st') else some (.exit i, st')
    | some (e, st') => some (e, st')
  | .lp a, st => loopN (exec call lf a) st.n lf st
  | .exit id, st => some (.exit id, st)
  | .ret, st => some (.ret, st)
  | .kl live a, st => exec call lf a { st with T := keepT live st.T }
  | .att x kk key a, st => exec call lf a { st with S := attach st.S (ev st.T x) kk (ev st.T key) }

def resV (st : St) : Rs → Option V
  | .tmp t => some (st.T t)
  | .cell a n agg => match st.T a with
    | .loc k N i j => match st.S k with
      | some o => rdOb N i j n agg o
      | none => none
    | _ => none

def fin (l : List Rs) (st : St) : Option V :=
  match mapO (resV st) l with
  | some [v] => some v
  | some vs => some (.tup vs)
  | none => none

def init (ds : List D) : St := { T := fun i => match ds[i]? with | some x => .d x | none => .junk, S := fun _ => none, n := 0 }

def endOk : Ex → Bool
  | .normal => true
  | .ret => true
  | .exit _ => false

/-! ### results that keep their own rows: the value renumbered, the rows kept, what is lent -/
def retC (S : Store) (n : Nat) : V → Option (V × List Nat × List Nat)
  | .nil E s => some (.nil E s, [], [])
  | .own k s N => match S k with
    | some (.grow true _ s' ds) => if ds.length = N ∧ s' = s then some (.own n s N, [k], []) else none
    | _ => (lendV 8 S (.own k s N)).map fun d => (.d d, [], refsV 8 S (.own k s N))
  | x => (lendV 8 S x).map fun d => (.d d, [], refsV 8 S x)
def retCs (S : Store) : Nat → List V → Option (List V × List Nat × List Nat)
  | _, [] => some ([], [], [])
  | n, x :: r => match retC S n x with
    | none => none
    | some (y, i1, l1) => match retCs S (n + i1.length) r with
      | none => none
      | some (ys, i2, l2) => some (y :: ys, i1 ++ i2, l1 ++ l2)
def retA (S : Store) (n : Nat) : V → Option (V × List Nat × List Nat)
  | .agg cs => (retCs S n cs).map fun p => (mkAgg p.1, p.2)
  | x => retC S n x
def retAs (S : Store) : Nat → List V → Option (List V × List Nat × List Nat)
  | _, [] => some ([], [], [])
  | n, x :: r => match retA S n x with
    | none => none
    | some (y, i1, l1) => match retAs S (n + i1.length) r with
      | none => none
      | some (ys, i2, l2) => some (y :: ys, i1 ++ i2, l1 ++ l2)
def retR (S : Store) : V → Option (V × List Nat × List Nat)
  | .tup vs => (retAs S 0 vs).map fun p => (.tup p.1, p.2)
  | x => retA S 0 x
def noDup : List Nat → Bool
  | [] => true
  | x :: r => !r.contains x && noDup r
def retO (S : Store) (v : V) : Option (V × List Ob) :=
  match retR S v with
  | none => none
  | some (r, ids, lent) => if (noDup ids && ids.all fun i => !lent.contains i) = true then (mapO S ids).map fun os => (r, os) else none

/-- What a function answers. -/
def answer (keep : Bool) (S : Store) (v : V) : Option (V × List Ob) :=
  if keep then retO S v else (lendR 8 S v).map fun r => (r, [])

noncomputable def run (C : Cfg) : Nat → CallF
  | 0, _, _ => none
  | k + 1, f, ds => match C.intr f with
    | some I => I ds
    | none => match C.fn f with
      | none => none
      | some F => if ds.length = F.np then
          match exec (run C k) k F.code (init ds) with
          | some (e, st) => if endOk e then
              (match fin F.res st with
               | some v => answer (C.keep f) st.S v
               | none => none)
            else none
          | none => none
        else none

end Go.R

namespace Go.R

/-- The blocks that data of a tag may not lie in. -/
abbrev Forb := Nat → Nat → Prop

mutual
def DRep (w : World) (fb : Forb) : D → Value → Prop
  | .bool b, v => v = .bool b
  | .int k n, v => v = .int k n
  | .str s, v => v = .string s
  | .slice g s es, v => ∃ A c, v = .slice A es.length c ∧ es.length ≤ c ∧ (es ≠ [] → ∃ b o, A = some ⟨b, o, none⟩ ∧ ¬ fb g b ∧ b < w.heap.size ∧ DRows w fb b s es o)
  | .agg cs, v => ∃ vs : List Value, v = .agg vs.toArray ∧ DVals w fb cs vs ∧ ∀ x ∈ vs, x.oneCell' = true
  | .cptr g es j, v => ∃ b o, v = .pointer (some ⟨b, o + j, none⟩) ∧ ¬ fb g b ∧ b < w.heap.size ∧ DCells w fb b es o
  | .func fn fst caps, v => ∃ f c : List Value, v = .func fn f.toArray c.toArray ∧ DVals w fb fst f ∧ DVals w fb caps c
  | .nilfunc, v => v = .nilFunc
  | .nilptr, v => v = .pointer none
def DVals (w : World) (fb : Forb) : List D → List Value → Prop
  | [], vs => vs = []
  | d :: ds, vs => ∃ v r, vs = v :: r ∧ DRep w fb d v ∧ DVals w fb ds r
def DCells (w : World) (fb : Forb) (b : Nat) : List D → Nat → Prop
  | [], _ => True
  | d :: ds, o => (∃ v, w.cell? ⟨b, o, none⟩ = some v ∧ v.oneCell' = true ∧ DRep w fb d v) ∧ DCells w fb b ds (o + 1)
def DRows (w : World) (fb : Forb) (b s : Nat) : List (List D) → Nat → Prop
  | [], _ => True
  | e :: r, o => e.length = s ∧ DCells w fb b e o ∧ DRows w fb b s r (o + s)
end

/-- One world and its forbidden blocks, then others: what data lies on is there still. -/
def Keeps (w : World) (fb : Forb) (w' : World) (fb' : Forb) : Prop :=
  w.heap.size ≤ w'.heap.size ∧ ∀ g b, b < w.heap.size → ¬ fb g b → w'.heap[b]? = w.heap[b]? ∧ ¬ fb' g b

theorem cell_of_heap {w w' : World} {b o : Nat} (h : w'.heap[b]? = w.heap[b]?) : w'.cell? ⟨b, o, none⟩ = w.cell? ⟨b, o, none⟩ := by
  simp [World.cell?, h]

mutual
theorem DRep.keep {w w' : World} {fb fb' : Forb} (h : Keeps w fb w' fb') : ∀ (x : D) (v : Value), DRep w fb x v → DRep w' fb' x v
  | .bool _, _ => fun hx => by simp only [DRep] at hx ⊢; exact hx
  | .int _ _, _ => fun hx => by simp only [DRep] at hx ⊢; exact hx
  | .str _, _ => fun hx => by simp only [DRep] at hx ⊢; exact hx
  | .slice g s es, v => fun hx => by
    simp only [DRep] at hx ⊢
    obtain ⟨A, c, hv, hle, hr⟩ := hx
    refine ⟨A, c, hv, hle, fun hn => ?_⟩
    obtain ⟨b, o, ha, hf, hb, hrows⟩ := hr hn
    exact ⟨b, o, ha, (h.2 g b hb hf).2, Nat.lt_of_lt_of_le hb h.1, DRows.keep h b s (h.2 g b hb hf).1 es o hrows⟩
  | .agg cs, v => fun hx => by
    simp only [DRep] at hx ⊢
    obtain ⟨vs, hv, hr, h1⟩ := hx
    exact ⟨vs, hv, DVals.keep h cs vs hr, h1⟩
  | .cptr g es j, v => fun hx => by
    simp only [DRep] at hx ⊢
    obtain ⟨b, o, hv, hf, hb, hr⟩ := hx
    exact ⟨b, o, hv, (h.2 g b hb hf).2, Nat.lt_of_lt_of_le hb h.1, DCells.keep h b (h.2 g b hb hf).1 es o hr⟩
  | .func fn fst caps, v => fun hx => by
    simp only [DRep] at hx ⊢
    obtain ⟨f, c, hv, h1, h2⟩ := hx
    exact ⟨f, c, hv, DVals.keep h fst f h1, DVals.keep h caps c h2⟩
  | .nilfunc, _ => fun hx => by simp only [DRep] at hx ⊢; exact hx
  | .nilptr, _ => fun hx => by simp only [DRep] at hx ⊢; exact hx
theorem DVals.keep {w w' : World} {fb fb' : Forb} (h : Keeps w fb w' fb') : ∀ (xs : List D) (vs : List Value), DVals w fb xs vs → DVals w' fb' xs vs
  | [], _ => fun hx => by simp only [DVals] at hx ⊢; exact hx
  | d :: ds, vs => fun hx => by
    simp only [DVals] at hx ⊢
    obtain ⟨v, r, hv, h1, h2⟩ := hx
    exact ⟨v, r, hv, DRep.keep h d v h1, DVals.keep h ds r h2⟩
theorem DCells.keep {w w' : World} {fb fb' : Forb} (h : Keeps w fb w' fb') (b : Nat) (hb : w'.heap[b]? = w.heap[b]?) : ∀ (xs : List D) (o : Nat), DCells w fb b xs o → DCells w' fb' b xs o
  | [], _ => fun _ => by simp only [DCells]
  | d :: ds, o => fun hx => by
    simp only [DCells] at hx ⊢
    obtain ⟨⟨v, hc, h1, hd⟩, h2⟩ := hx
    exact ⟨⟨v, by rw [cell_of_heap hb]; exact hc, h1, DRep.keep h d v hd⟩, DCells.keep h b hb ds (o + 1) h2⟩
theorem DRows.keep {w w' : World} {fb fb' : Forb} (h : Keeps w fb w' fb') (b s : Nat) (hb : w'.heap[b]? = w.heap[b]?) : ∀ (xs : List (List D)) (o : Nat), DRows w fb b s xs o → DRows w' fb' b s xs o
  | [], _ => fun _ => by simp only [DRows]
  | e :: r, o => fun hx => by
    simp only [DRows] at hx ⊢
    exact ⟨hx.1, DCells.keep h b hb e o hx.2.1, DRows.keep h b s hb r (o + s) hx.2.2⟩
end

/-! ### a state of the evaluator over a world -/
structure Cx where
  w : World
  F : Forb
  S : Store
  /-- the numbers that have been given away -/
  U : Nat → Prop
  σ : Nat → Value

def blkOf : Value → Option Nat
  | .slice (some a) _ _ => some a.block
  | .map (some r) => some r
  | _ => none

def isMut : Ob → Bool
  | .grow m _ _ _ => m
  | .row m _ _ _ => m
  | .map _ => true

def Cx.M (c : Cx) (b : Nat) : Prop := ∃ k o, c.S k = some o ∧ isMut o = true ∧ blkOf (c.σ k) = some b
def Cx.fb (c : Cx) : Forb := fun g b => c.M b ∨ c.F g b

def Dead (c : Cx) (k N : Nat) : Prop :=
  c.U k ∧ (c.S k = none ∨ ∃ o m E s es, c.S k = some o ∧ rowEs o = some (m, E, s, es) ∧ N < es.length)
def OwnR (c : Cx) (k s N : Nat) (v : Value) : Prop :=
  (∃ o m E es, c.S k = some o ∧ rowEs o = some (m, E, s, es) ∧ es.length = N ∧ v = c.σ k) ∨ Dead c k N
def LocR (c : Cx) (k N i j : Nat) (v : Value) : Prop :=
  (∃ o m E s es, c.S k = some o ∧ rowEs o = some (m, E, s, es) ∧ es.length = N ∧ ∃ g q cap, c.σ k = .slice (some ⟨g, q, none⟩) N cap ∧ v = .pointer (some ⟨g, q + (i * s + j), none⟩)) ∨ Dead c k N
def MpR (c : Cx) (k : Nat) (v : Value) : Prop :=
  (∃ ents, c.S k = some (.map ents) ∧ v = c.σ k) ∨ (c.U k ∧ c.S k = none)

def ShO (N : Nat) (v : Value) : Prop := ∃ A cap, v = .slice A N cap ∧ (0 < N → ∃ b q, A = some ⟨b, q, none⟩)
def ShL (v : Value) : Prop := ∃ b q, v = .pointer (some ⟨b, q, none⟩)
def ShM (v : Value) : Prop := ∃ r, v = .map (some r)

mutual
def VRep (c : Cx) : V → Value → Prop
  | .d x, v => DRep c.w c.fb x v
  | .nil _ _, v => v = .slice none 0 0
  | .own k s N, v => OwnR c k s N v ∧ ShO N v
  | .loc k N i j, v => LocR c k N i j v ∧ ShL v
  | .mp k, v => MpR c k v ∧ ShM v
  | .nilmp, v => v = .map none
  | .agg cs, v => ∃ vs : List Value, v = .agg vs.toArray ∧ VVals c cs vs ∧ ∀ x ∈ vs, x.oneCell' = true
  | .tup cs, v => ∃ vs : List Value, v = .tuple vs.toArray ∧ VVals c cs vs
  | .func fn fst caps, v => ∃ f q : List Value, v = .func fn f.toArray q.toArray ∧ VVals c fst f ∧ VVals c caps q
  | .junk, _ => True
  | .ub, v => ∃ b, v = .bool b
  | .un, v => v = undef
def VVals (c : Cx) : List V → List Value → Prop
  | [], vs => vs = []
  | d :: ds, vs => ∃ v r, vs = v :: r ∧ VRep c d v ∧ VVals c ds r
end

/-- From one state to a later one: what a value says stays true, or the value has become stale. -/
structure Pres (c c' : Cx) : Prop where
  keeps : Keeps c.w c.fb c'.w c'.fb
  n : ∀ k, c.U k → c'.U k
  gone : ∀ k, c.U k → c.S k = none → c'.S k = none
  row : ∀ k o m E s es, c.S k = some o → rowEs o = some (m, E, s, es) → c'.S k = none ∨
    ∃ o' m' E' es', c'.S k = some o' ∧ rowEs o' = some (m', E', s, es') ∧ es.length ≤ es'.length ∧ (es'.length = es.length → c'.σ k = c.σ k)
  map : ∀ k ents, c.S k = some (.map ents) → c'.S k = none ∨ ∃ ents', c'.S k = some (.map ents') ∧ c'.σ k = c.σ k
  lt : ∀ k o, c.S k = some o → c.U k

theorem Dead.keep {c c' : Cx} (h : Pres c c') {k N : Nat} (hd : Dead c k N) : Dead c' k N := by
  obtain ⟨hk, hd⟩ := hd
  refine ⟨h.n k hk, ?_⟩
  rcases hd with hd | ⟨o, m, E, s, es, ho, hr, hl⟩
  · exact .inl (h.gone k hk hd)
  · rcases h.row k o m E s es ho hr with hn | ⟨o', m', E', es', ho', hr', hle, _⟩
    · exact .inl hn
    · exact .inr ⟨o', m', E', s, es', ho', hr', by omega⟩

mutual
theorem VRep.keep {c c' : Cx} (h : Pres c c') : ∀ (x : V) (v : Value), VRep c x v → VRep c' x v
  | .d x, v => fun hx => by simp only [VRep] at hx ⊢; exact DRep.keep h.keeps x v hx
  | .nil _ _, _ => fun hx => by simp only [VRep] at hx ⊢; exact hx
  | .own k s N, v => fun hx => by
    simp only [VRep] at hx ⊢
    obtain ⟨hx, h1⟩ := hx
    refine ⟨?_, h1⟩
    rcases hx with ⟨o, m, E, es, ho, hr, hl, hv⟩ | hd
    · rcases h.row k o m E s es ho hr with hn | ⟨o', m', E', es', ho', hr', hle, hs⟩
      · exact .inr ⟨h.n k (h.lt k o ho), .inl hn⟩
      · by_cases he : es'.length = es.length
        · exact .inl ⟨o', m', E', es', ho', hr', by omega, by rw [hv, hs he]⟩
        · exact .inr ⟨h.n k (h.lt k o ho), .inr ⟨o', m', E', s, es', ho', hr', by omega⟩⟩
    · exact .inr (hd.keep h)
  | .loc k N i j, v => fun hx => by
    simp only [VRep] at hx ⊢
    obtain ⟨hx, h1⟩ := hx
    refine ⟨?_, h1⟩
    rcases hx with ⟨o, m, E, s, es, ho, hr, hl, g, q, cap, hg, hv⟩ | hd
    · rcases h.row k o m E s es ho hr with hn | ⟨o', m', E', es', ho', hr', hle, hs⟩
      · exact .inr ⟨h.n k (h.lt k o ho), .inl hn⟩
      · by_cases he : es'.length = es.length
        · exact .inl ⟨o', m', E', s, es', ho', hr', by omega, g, q, cap, by rw [hs he, hg], hv⟩
        · exact .inr ⟨h.n k (h.lt k o ho), .inr ⟨o', m', E', s, es', ho', hr', by omega⟩⟩
    · exact .inr (hd.keep h)
  | .mp k, v => fun hx => by
    simp only [VRep] at hx ⊢
    obtain ⟨hx, h1⟩ := hx
    refine ⟨?_, h1⟩
    rcases hx with ⟨ents, ho, hv⟩ | ⟨hk, hn⟩
    · rcases h.map k ents ho with hn | ⟨ents', ho', hs⟩
      · exact .inr ⟨h.n k (h.lt k _ ho), hn⟩
      · exact .inl ⟨ents', ho', by rw [hv, hs]⟩
    · exact .inr ⟨h.n k hk, h.gone k hk hn⟩
  | .nilmp, _ => fun hx => by simp only [VRep] at hx ⊢; exact hx
  | .agg cs, v => fun hx => by
    simp only [VRep] at hx ⊢
    obtain ⟨vs, hv, hr, h1⟩ := hx
    exact ⟨vs, hv, VVals.keep h cs vs hr, h1⟩
  | .tup cs, v => fun hx => by
    simp only [VRep] at hx ⊢
    obtain ⟨vs, hv, hr⟩ := hx
    exact ⟨vs, hv, VVals.keep h cs vs hr⟩
  | .func fn fst caps, v => fun hx => by
    simp only [VRep] at hx ⊢
    obtain ⟨f, q, hv, h1, h2⟩ := hx
    exact ⟨f, q, hv, VVals.keep h fst f h1, VVals.keep h caps q h2⟩
  | .junk, _ => fun _ => by simp only [VRep]
  | .ub, _ => fun hx => by simp only [VRep] at hx ⊢; exact hx
  | .un, _ => fun hx => by simp only [VRep] at hx ⊢; exact hx
theorem VVals.keep {c c' : Cx} (h : Pres c c') : ∀ (xs : List V) (vs : List Value), VVals c xs vs → VVals c' xs vs
  | [], _ => fun hx => by simp only [VVals] at hx ⊢; exact hx
  | d :: ds, vs => fun hx => by
    simp only [VVals] at hx ⊢
    obtain ⟨v, r, hv, h1, h2⟩ := hx
    exact ⟨v, r, hv, VRep.keep h d v h1, VVals.keep h ds r h2⟩
end

/-! ### objects -/
def MapR (c : Cx) : List (D × V) → List MapEntry → Prop
  | [], es => es = []
  | p :: r, es => ∃ e q, es = e :: q ∧ DRep c.w c.fb p.1 e.key ∧ VRep c p.2 e.val ∧ MapR c r q

def ObOK (c : Cx) (k : Nat) : Ob → Prop
  | .grow true E s ds => ∃ flat, c.w.ownsRow 0 E s (c.σ k) ds.length flat ∧ (∀ e ∈ ds, e.length = s) ∧ DVals c.w c.fb ds.flatten flat ∧ ∀ x ∈ flat, x.oneCell' = true
  | .grow false _ s ds => DRep c.w c.fb (.slice 0 s ds) (c.σ k) ∧ (∀ e ∈ ds, e.length = s)
  | .row true E s es => ∃ flat, c.w.ownsRow 0 E s (c.σ k) es.length flat ∧ (∀ e ∈ es, e.length = s) ∧ VVals c es.flatten flat ∧ ∀ x ∈ flat, x.oneCell' = true
  | .row false _ _ _ => False
  | .map ents => ∃ r es cl, c.σ k = .map (some r) ∧ c.w.heap[r]? = some (.map es cl) ∧ MapR c ents es.toList

theorem MapR.keep {c c' : Cx} (h : Pres c c') : ∀ (ents : List (D × V)) (es : List MapEntry), MapR c ents es → MapR c' ents es
  | [], _ => fun hx => by simp only [MapR] at hx ⊢; exact hx
  | p :: r, es => fun hx => by
    simp only [MapR] at hx ⊢
    obtain ⟨e, q, he, h1, h2, h3⟩ := hx
    exact ⟨e, q, he, DRep.keep h.keeps _ _ h1, VRep.keep h _ _ h2, MapR.keep h r q h3⟩

structure SR (c : Cx) : Prop where
  fresh : ∀ k, ¬ c.U k → c.S k = none
  ob : ∀ k o, c.S k = some o → ObOK c k o
  inj : ∀ k k' o o' b, c.S k = some o → isMut o = true → c.S k' = some o' → isMut o' = true → blkOf (c.σ k) = some b → blkOf (c.σ k') = some b → k = k'
  mnf : ∀ g b, c.M b → ¬ c.F g b
  bound : ∀ g b, c.F g b → b < c.w.heap.size

theorem SR.lt {c : Cx} (h : SR c) {k : Nat} {o : Ob} (ho : c.S k = some o) : c.U k := by
  by_cases hk : c.U k
  · exact hk
  · rw [h.fresh k hk] at ho; cases ho

theorem blkOf_ownBlock {v : Value} {g : Nat} (h : v.ownBlock = some g) : blkOf v = some g := by
  unfold Value.ownBlock at h
  split at h
  · simpa [blkOf] using h
  · cases h

theorem owns_lt {w : World} {E s n : Nat} {v : Value} {xs : List Value} (h : w.ownsRow 0 E s v n xs) {b : Nat} (hb : blkOf v = some b) : b < w.heap.size := by
  rcases h.2 with ⟨rfl, _⟩ | ⟨g, cap, cur, rfl, _, hg, _⟩
  · simp [blkOf] at hb
  · simp [blkOf] at hb
    subst hb
    exact (Array.getElem?_eq_some_iff.1 hg).1

theorem owns_heap {w w' : World} {E s n : Nat} {v : Value} {xs : List Value} (h : w.ownsRow 0 E s v n xs) (hb : ∀ b, blkOf v = some b → w'.heap[b]? = w.heap[b]?) : w'.ownsRow 0 E s v n xs := by
  refine ⟨h.1, ?_⟩
  rcases h.2 with hn | ⟨g, cap, cur, rfl, h0, hg, rest⟩
  · exact .inl hn
  · exact .inr ⟨g, cap, cur, rfl, h0, by rw [hb g (by simp [blkOf])]; exact hg, rest⟩

theorem ObOK.mut_lt {c : Cx} {k : Nat} {o : Ob} (h : ObOK c k o) (hm : isMut o = true) {b : Nat} (hb : blkOf (c.σ k) = some b) : b < c.w.heap.size := by
  cases o with
  | grow m E s ds =>
    simp only [isMut] at hm
    subst hm
    obtain ⟨flat, h1, _⟩ := h
    exact owns_lt h1 hb
  | row m E s es =>
    simp only [isMut] at hm
    subst hm
    obtain ⟨flat, h1, _⟩ := h
    exact owns_lt h1 hb
  | map ents =>
    obtain ⟨r, es, cl, h1, h2, _⟩ := h
    rw [h1] at hb
    simp [blkOf] at hb
    subst hb
    exact (Array.getElem?_eq_some_iff.1 h2).1

theorem SR.M_lt {c : Cx} (h : SR c) {b : Nat} (hb : c.M b) : b < c.w.heap.size := by
  obtain ⟨k, o, ho, hm, hk⟩ := hb
  exact (h.ob k o ho).mut_lt hm hk

/-- An object that is as it was. -/
theorem ObOK.same {c c' : Cx} (h : Pres c c') {k : Nat} {o : Ob} (hs : c'.σ k = c.σ k) (hb : isMut o = true → ∀ b, blkOf (c.σ k) = some b → c'.w.heap[b]? = c.w.heap[b]?) (ho : ObOK c k o) : ObOK c' k o := by
  cases o with
  | grow m E s ds =>
    cases m with
    | true =>
      obtain ⟨flat, h1, h2, h3, h4⟩ := ho
      exact ⟨flat, by rw [hs]; exact owns_heap h1 (hb rfl), h2, DVals.keep h.keeps _ _ h3, h4⟩
    | false => exact ⟨by rw [hs]; exact DRep.keep h.keeps _ _ ho.1, ho.2⟩
  | row m E s es =>
    cases m with
    | true =>
      obtain ⟨flat, h1, h2, h3, h4⟩ := ho
      exact ⟨flat, by rw [hs]; exact owns_heap h1 (hb rfl), h2, VVals.keep h _ _ h3, h4⟩
    | false => exact ho
  | map ents =>
    obtain ⟨r, es, cl, h1, h2, h3⟩ := ho
    refine ⟨r, es, cl, by rw [hs]; exact h1, ?_, MapR.keep h _ _ h3⟩
    rw [hb rfl r (by rw [h1]; rfl)]
    exact h2

/-- What a step of the machine may do to the world: blocks that are the call's own change, new ones come. -/
structure Ext (B : Nat → Prop) (w w' : World) : Prop where
  os : w'.os = w.os
  tape : w'.tape = w.tape
  output : w'.output = w.output
  size : w.heap.size ≤ w'.heap.size
  block : ∀ b, b < w.heap.size → ¬ B b → w'.heap[b]? = w.heap[b]?

theorem Ext.refl (B : Nat → Prop) (w : World) : Ext B w w := ⟨rfl, rfl, rfl, Nat.le_refl _, fun _ _ _ => rfl⟩
theorem Ext.mono {B B' : Nat → Prop} {w w' : World} (h : Ext B w w') (hb : ∀ b, B b → B' b) : Ext B' w w' :=
  ⟨h.os, h.tape, h.output, h.size, fun b hlt hn => h.block b hlt fun hh => hn (hb b hh)⟩
/-- The second step changes blocks of `B` and such as the first one has made. -/
theorem Ext.trans {B B' : Nat → Prop} {w w' w'' : World} (h : Ext B w w') (h' : Ext B' w' w'') (hb : ∀ b, b < w.heap.size → B' b → B b) : Ext B w w'' :=
  ⟨h'.os.trans h.os, h'.tape.trans h.tape, h'.output.trans h.output, Nat.le_trans h.size h'.size,
    fun b hlt hn => (h'.block b (Nat.lt_of_lt_of_le hlt h.size) fun hh => hn (hb b hlt hh)).trans (h.block b hlt hn)⟩
theorem Ext.drew {B : Nat → Prop} {w w' : World} (h : Ext B w w') : Ext B w w'.drew := ⟨h.os, h.tape, h.output, h.size, h.block⟩
theorem Ext.alloc (B : Nat → Prop) (w : World) (o : Obj) : Ext B w (w.alloc o) :=
  ⟨rfl, rfl, rfl, by simp, fun b hb _ => Go.heap_alloc_old w o b hb⟩

end Go.R

namespace Go.R

/-! ### lists -/
theorem DVals_map {c : Cx} : ∀ (ds : List D) (vs : List Value), VVals c (ds.map .d) vs ↔ DVals c.w c.fb ds vs
  | [], vs => by simp [VVals, DVals]
  | d :: ds, vs => by
    simp only [List.map_cons, VVals, DVals, VRep]
    constructor
    · rintro ⟨v, r, h, h1, h2⟩; exact ⟨v, r, h, h1, (DVals_map ds r).1 h2⟩
    · rintro ⟨v, r, h, h1, h2⟩; exact ⟨v, r, h, h1, (DVals_map ds r).2 h2⟩

theorem VVals_length {c : Cx} : ∀ {xs : List V} {vs : List Value}, VVals c xs vs → vs.length = xs.length
  | [], vs, h => by simp only [VVals] at h; simp [h]
  | d :: ds, vs, h => by
    simp only [VVals] at h
    obtain ⟨v, r, rfl, _, h2⟩ := h
    simp [VVals_length h2]

theorem VVals_append {c : Cx} : ∀ {xs ys : List V} {us vs : List Value}, VVals c xs us → VVals c ys vs → VVals c (xs ++ ys) (us ++ vs)
  | [], ys, us, vs, h, h' => by simp only [VVals] at h; subst h; simpa using h'
  | d :: ds, ys, us, vs, h, h' => by
    simp only [VVals] at h
    obtain ⟨v, r, rfl, h1, h2⟩ := h
    simp only [List.cons_append, VVals]
    exact ⟨v, r ++ vs, rfl, h1, VVals_append h2 h'⟩

theorem VVals_take {c : Cx} : ∀ (i : Nat) {xs : List V} {vs : List Value}, VVals c xs vs → VVals c (xs.take i) (vs.take i)
  | 0, xs, vs, _ => by simp [VVals]
  | i + 1, [], vs, h => by simp only [VVals] at h; subst h; simp [VVals]
  | i + 1, d :: ds, vs, h => by
    simp only [VVals] at h
    obtain ⟨v, r, rfl, h1, h2⟩ := h
    simp only [List.take_succ_cons, VVals]
    exact ⟨v, r.take i, rfl, h1, VVals_take i h2⟩

theorem VVals_drop {c : Cx} : ∀ (i : Nat) {xs : List V} {vs : List Value}, VVals c xs vs → VVals c (xs.drop i) (vs.drop i)
  | 0, xs, vs, h => by simpa using h
  | i + 1, [], vs, h => by simp only [VVals] at h; subst h; simp [VVals]
  | i + 1, d :: ds, vs, h => by
    simp only [VVals] at h
    obtain ⟨v, r, rfl, h1, h2⟩ := h
    simpa using VVals_drop i h2

theorem VVals_get {c : Cx} : ∀ (i : Nat) {xs : List V} {vs : List Value} {x : V}, VVals c xs vs → xs[i]? = some x → ∃ v, vs[i]? = some v ∧ VRep c x v
  | _, [], vs, x, _, hx => by simp at hx
  | 0, d :: ds, vs, x, h, hx => by
    simp only [VVals] at h
    obtain ⟨v, r, rfl, h1, h2⟩ := h
    simp at hx
    subst hx
    exact ⟨v, by simp, h1⟩
  | i + 1, d :: ds, vs, x, h, hx => by
    simp only [VVals] at h
    obtain ⟨v, r, rfl, h1, h2⟩ := h
    simp at hx
    obtain ⟨u, hu, hr⟩ := VVals_get i h2 hx
    exact ⟨u, by simpa using hu, hr⟩

theorem VVals_splice {c : Cx} {xs ys : List V} {us vs : List Value} (j : Nat) (h : VVals c xs us) (h' : VVals c ys vs) : VVals c (splice xs j ys) (splice us j vs) := by
  unfold splice
  rw [VVals_length h']
  exact VVals_append (VVals_append (VVals_take j h) h') (VVals_drop _ h)

theorem flatten_length {α : Type} {s : Nat} : ∀ {es : List (List α)}, (∀ e ∈ es, e.length = s) → es.flatten.length = es.length * s
  | [], _ => by simp
  | e :: r, h => by
    simp only [List.flatten_cons, List.length_append, List.length_cons]
    rw [flatten_length (fun x hx => h x (by simp [hx])), h e (by simp), Nat.add_mul]
    omega

theorem split_at {α : Type} {es : List α} {i : Nat} {e : α} (he : es[i]? = some e) : es = es.take i ++ e :: es.drop (i + 1) := by
  obtain ⟨h, rfl⟩ := List.getElem?_eq_some_iff.1 he
  rw [List.getElem_cons_drop, List.take_append_drop]

theorem flatten_split {α : Type} {s : Nat} {es : List (List α)} {i : Nat} {e : List α} (h : ∀ e ∈ es, e.length = s) (he : es[i]? = some e) :
    es.flatten = (es.take i).flatten ++ (e ++ (es.drop (i + 1)).flatten) ∧ (es.take i).flatten.length = i * s ∧ e.length = s ∧ i < es.length := by
  have hi : i < es.length := (List.getElem?_eq_some_iff.1 he).1
  refine ⟨?_, ?_, ?_, hi⟩
  · conv => lhs; rw [split_at he]
    simp
  · rw [flatten_length (s := s) (fun x hx => h x (List.mem_of_mem_take hx)), List.length_take, Nat.min_eq_left (Nat.le_of_lt hi)]
  · exact h e (List.mem_of_getElem? he)

theorem flatten_at {α : Type} {s : Nat} {es : List (List α)} (i : Nat) {e : List α} (h : ∀ e ∈ es, e.length = s) (he : es[i]? = some e) : (es.flatten.drop (i * s)).take s = e := by
  obtain ⟨h1, h2, h3, _⟩ := flatten_split h he
  rw [h1, ← h2, List.drop_left, ← h3, List.take_left]

theorem set_lens {α : Type} {s : Nat} {es : List (List α)} (i : Nat) {e' : List α} (h : ∀ e ∈ es, e.length = s) (he : e'.length = s) : ∀ e ∈ es.set i e', e.length = s := by
  intro x hx
  rcases List.mem_or_eq_of_mem_set hx with hx | rfl
  · exact h x hx
  · exact he

theorem flatten_set {α : Type} {s : Nat} {es : List (List α)} {i j : Nat} {e cs : List α} (h : ∀ e ∈ es, e.length = s) (he : es[i]? = some e) (hj : j + cs.length ≤ e.length) :
    (es.set i (splice e j cs)).flatten = splice es.flatten (i * s + j) cs := by
  obtain ⟨h1, h2, h3, hi⟩ := flatten_split h he
  have hset : (es.set i (splice e j cs)) = es.take i ++ splice e j cs :: es.drop (i + 1) := by
    rw [List.set_eq_take_append_cons_drop, if_pos hi]
  rw [hset, List.flatten_append, List.flatten_cons]
  conv => rhs; rw [h1]
  unfold splice
  rw [List.take_append, List.drop_append, h2]
  have e1 : i * s + j - i * s = j := by omega
  have e2 : i * s + j + cs.length - i * s = j + cs.length := by omega
  rw [e1, e2, List.take_of_length_le (by omega : (es.take i).flatten.length ≤ i * s + j), List.drop_eq_nil_of_le (by omega : (es.take i).flatten.length ≤ i * s + j + cs.length)]
  rw [List.take_append_of_le_length (by omega : j ≤ e.length), List.drop_append_of_le_length (by omega : j + cs.length ≤ e.length)]
  simp [List.append_assoc]

theorem splice_length {α : Type} {xs ys : List α} {j : Nat} (h : j + ys.length ≤ xs.length) : (splice xs j ys).length = xs.length := by
  unfold splice
  simp only [List.length_append, List.length_take, List.length_drop]
  omega

/-! ### a row that may be written -/
def RowOK (c : Cx) (k E s : Nat) (es : List (List V)) : Prop :=
  ∃ flat, c.w.ownsRow 0 E s (c.σ k) es.length flat ∧ (∀ e ∈ es, e.length = s) ∧ VVals c es.flatten flat ∧ ∀ x ∈ flat, x.oneCell' = true

theorem flatten_mapD (ds : List (List D)) : (ds.map (·.map V.d)).flatten = ds.flatten.map V.d := List.map_flatten.symm

theorem rowOK_grow {c : Cx} {k E s : Nat} {ds : List (List D)} : ObOK c k (.grow true E s ds) ↔ RowOK c k E s (ds.map (·.map V.d)) := by
  constructor
  · rintro ⟨flat, h1, h2, h3, h4⟩
    exact ⟨flat, by rw [List.length_map]; exact h1, fun e he => by obtain ⟨a, ha, rfl⟩ := List.mem_map.1 he; rw [List.length_map]; exact h2 a ha, by rw [flatten_mapD]; exact (DVals_map _ _).2 h3, h4⟩
  · rintro ⟨flat, h1, h2, h3, h4⟩
    rw [List.length_map] at h1
    rw [flatten_mapD] at h3
    exact ⟨flat, h1, fun e he => by have := h2 (e.map V.d) (List.mem_map.2 ⟨e, he, rfl⟩); rwa [List.length_map] at this, (DVals_map _ _).1 h3, h4⟩

theorem rowEs_mut {o : Ob} {E s : Nat} {es : List (List V)} (h : rowEs o = some (true, E, s, es)) : isMut o = true ∧ ((∃ ds, o = .grow true E s ds ∧ es = ds.map (·.map V.d)) ∨ o = .row true E s es) := by
  cases o with
  | grow m E' s' ds => simp [rowEs] at h; obtain ⟨rfl, rfl, rfl, rfl⟩ := h; exact ⟨rfl, .inl ⟨ds, rfl, rfl⟩⟩
  | row m E' s' es' => simp [rowEs] at h; obtain ⟨rfl, rfl, rfl, rfl⟩ := h; exact ⟨rfl, .inr rfl⟩
  | map _ => simp [rowEs] at h

theorem obOK_row {c : Cx} {k E s : Nat} {o : Ob} {es : List (List V)} (h : rowEs o = some (true, E, s, es)) : ObOK c k o ↔ RowOK c k E s es := by
  rcases (rowEs_mut h).2 with ⟨ds, rfl, rfl⟩ | rfl
  · exact rowOK_grow
  · exact Iff.rfl

theorem rowEs_frozen {c : Cx} {k E s : Nat} {o : Ob} {es : List (List V)} (h : rowEs o = some (false, E, s, es)) (ho : ObOK c k o) : ∃ ds, o = .grow false E s ds ∧ es = ds.map (·.map V.d) ∧ DRep c.w c.fb (.slice 0 s ds) (c.σ k) ∧ ∀ e ∈ ds, e.length = s := by
  cases o with
  | grow m E' s' ds => simp [rowEs] at h; obtain ⟨rfl, rfl, rfl, rfl⟩ := h; exact ⟨ds, rfl, rfl, ho.1, ho.2⟩
  | row m E' s' es' => simp [rowEs] at h; obtain ⟨rfl, rfl, rfl, rfl⟩ := h; exact ho.elim
  | map _ => simp [rowEs] at h

theorem rowEs_isMut {o : Ob} {m : Bool} {E s : Nat} {es : List (List V)} (h : rowEs o = some (m, E, s, es)) : isMut o = m := by
  cases o with
  | grow m' E' s' ds => simp [rowEs] at h; simp [isMut, h.1]
  | row m' E' s' es' => simp [rowEs] at h; simp [isMut, h.1]
  | map _ => simp [rowEs] at h

/-- The state with one object more. -/
def Cx.add (c : Cx) (w' : World) (q : Nat) (o : Ob) (v : Value) : Cx :=
  { w := w', F := c.F, S := upd c.S q (some o), U := fun k => c.U k ∨ k = q, σ := upd c.σ q v }

theorem upd_same {α : Type} (f : Nat → α) (i : Nat) (v : α) : upd f i v i = v := by simp [upd]
theorem upd_ne {α : Type} (f : Nat → α) {i j : Nat} (v : α) (h : j ≠ i) : upd f i v j = f j := by simp [upd, h]

theorem Cx.add_M {c : Cx} {w' : World} {q : Nat} {o : Ob} {v : Value} {b : Nat} (hb : (c.add w' q o v).M b) : c.M b ∨ (isMut o = true ∧ blkOf v = some b) := by
  obtain ⟨k, o', ho, hm, hk⟩ := hb
  simp only [Cx.add] at ho hk
  by_cases hkn : k = q
  · subst hkn
    rw [upd_same] at ho hk
    cases ho
    exact .inr ⟨hm, hk⟩
  · rw [upd_ne _ _ hkn] at ho hk
    exact .inl ⟨k, o', ho, hm, hk⟩

theorem Cx.add_pres {c : Cx} (h : SR c) {w' : World} (he : Ext (fun _ => False) c.w w') {q : Nat} (hq : ¬ c.U q) {o : Ob} {v : Value} (hb : ∀ b, blkOf v = some b → c.w.heap.size ≤ b) : Pres c (c.add w' q o v) where
  keeps := ⟨he.size, fun g b hlt hn => ⟨he.block b hlt id, fun hh => by
    rcases hh with hM | hF
    · rcases Cx.add_M hM with hM | ⟨_, hv⟩
      · exact hn (.inl hM)
      · have := hb b hv; omega
    · exact hn (.inr hF)⟩⟩
  n := fun k hk => .inl hk
  gone := fun k hk hn => by simp only [Cx.add]; rw [upd_ne _ _ (by rintro rfl; exact hq hk)]; exact hn
  row := fun k o' m E s es ho hr => .inr ⟨o', m, E, es, by simp only [Cx.add]; rw [upd_ne _ _ (by rintro rfl; exact hq (h.lt ho))]; exact ho, hr, Nat.le_refl _, fun _ => by simp only [Cx.add]; rw [upd_ne _ _ (by rintro rfl; exact hq (h.lt ho))]⟩
  map := fun k ents ho => .inr ⟨ents, by simp only [Cx.add]; rw [upd_ne _ _ (by rintro rfl; exact hq (h.lt ho))]; exact ho, by simp only [Cx.add]; rw [upd_ne _ _ (by rintro rfl; exact hq (h.lt ho))]⟩
  lt := fun k o ho => h.lt ho

theorem Cx.add_sr {c : Cx} (h : SR c) {w' : World} (he : Ext (fun _ => False) c.w w') {q : Nat} (hq : ¬ c.U q) {o : Ob} {v : Value} (hb : ∀ b, blkOf v = some b → c.w.heap.size ≤ b) (ho : ObOK (c.add w' q o v) q o) : SR (c.add w' q o v) where
  fresh := fun k hk => by simp only [Cx.add, not_or] at hk ⊢; rw [upd_ne _ _ hk.2]; exact h.fresh k hk.1
  ob := fun k o' ho' => by
    simp only [Cx.add] at ho'
    by_cases hkn : k = q
    · subst hkn
      rw [upd_same] at ho'
      cases ho'
      exact ho
    · rw [upd_ne _ _ hkn] at ho'
      refine ObOK.same (Cx.add_pres h he hq hb) (by simp only [Cx.add]; rw [upd_ne _ _ hkn]) (fun hm b hbk => ?_) (h.ob k o' ho')
      exact he.block b ((h.ob k o' ho').mut_lt hm hbk) id
  inj := fun k k' o1 o2 b h1 m1 h2 m2 b1 b2 => by
    simp only [Cx.add] at h1 h2 b1 b2
    by_cases hk : k = q <;> by_cases hk' : k' = q
    · rw [hk, hk']
    · subst hk
      rw [upd_same] at b1
      rw [upd_ne _ _ hk'] at h2 b2
      have := hb b b1
      have := (h.ob k' o2 h2).mut_lt m2 b2
      omega
    · subst hk'
      rw [upd_same] at b2
      rw [upd_ne _ _ hk] at h1 b1
      have := hb b b2
      have := (h.ob k o1 h1).mut_lt m1 b1
      omega
    · rw [upd_ne _ _ hk] at h1 b1
      rw [upd_ne _ _ hk'] at h2 b2
      exact h.inj k k' o1 o2 b h1 m1 h2 m2 b1 b2
  mnf := fun g b hM hF => by
    rcases Cx.add_M hM with hM | ⟨_, hv⟩
    · exact h.mnf g b hM hF
    · have := hb b hv
      have := h.bound g b hF
      omega
  bound := fun g b hF => Nat.lt_of_lt_of_le (h.bound g b hF) he.size

/-- A new row of the call's own. -/
theorem add_row {c : Cx} (h : SR c) {w' : World} (he : Ext (fun _ => False) c.w w') {q : Nat} (hq : ¬ c.U q) {o : Ob} {v : Value} {E s : Nat} {es : List (List V)} {flat : List Value}
    (hr : rowEs o = some (true, E, s, es)) (hb : ∀ b, blkOf v = some b → c.w.heap.size ≤ b) (hown : w'.ownsRow 0 E s v es.length flat) (hl : ∀ e ∈ es, e.length = s)
    (hv : VVals c es.flatten flat) (h1 : ∀ x ∈ flat, x.oneCell' = true) : SR (c.add w' q o v) ∧ Pres c (c.add w' q o v) := by
  have hp := Cx.add_pres h he hq (o := o) hb
  refine ⟨Cx.add_sr h he hq hb ((obOK_row hr).2 ⟨flat, ?_, hl, VVals.keep hp _ _ hv, h1⟩), hp⟩
  simpa [Cx.add, upd_same] using hown

/-- The same world, another fact. -/
theorem Ext.none {w w' : World} (h : w.grownBy w' none) : Ext (fun _ => False) w w' :=
  ⟨h.os, h.tape, h.output, h.size, fun b hb _ => h.block b hb (by simp)⟩

/-! ### a row changes -/
def Cx.put (c : Cx) (w' : World) (k : Nat) (o : Ob) (v : Value) : Cx :=
  { w := w', F := c.F, S := upd c.S k (some o), U := c.U, σ := upd c.σ k v }

theorem Cx.put_M {c : Cx} {k : Nat} {w' : World} {o : Ob} {v : Value} {b : Nat} (hb : (c.put w' k o v).M b) : (∃ k' o', k' ≠ k ∧ c.S k' = some o' ∧ isMut o' = true ∧ blkOf (c.σ k') = some b) ∨ (isMut o = true ∧ blkOf v = some b) := by
  obtain ⟨k', o', ho, hm, hk⟩ := hb
  simp only [Cx.put] at ho hk
  by_cases hkn : k' = k
  · subst hkn
    rw [upd_same] at ho hk
    cases ho
    exact .inr ⟨hm, hk⟩
  · rw [upd_ne _ _ hkn] at ho hk
    exact .inl ⟨k', o', hkn, ho, hm, hk⟩

/-- A row that may be written is another one now: its block, or a new one. -/
theorem put_row {c : Cx} (h : SR c) {k : Nat} {o o' : Ob} {E s : Nat} {es es' : List (List V)} (hk : c.S k = some o) (hr : rowEs o = some (true, E, s, es)) (hr' : rowEs o' = some (true, E, s, es'))
    {w' : World} {row : Option Nat} (hg : c.w.grownBy w' row) (hrow : ∀ b, row = some b → blkOf (c.σ k) = some b) {v : Value} {flat : List Value}
    (hlen : es.length ≤ es'.length) (hsame : es'.length = es.length → v = c.σ k)
    (hb : ∀ b, blkOf v = some b → c.w.heap.size ≤ b ∨ blkOf (c.σ k) = some b) (hown : w'.ownsRow 0 E s v es'.length flat) (hl : ∀ e ∈ es', e.length = s)
    (hv : ∀ c', Pres c c' → VVals c' es'.flatten flat) (h1 : ∀ x ∈ flat, x.oneCell' = true) : SR (c.put w' k o' v) ∧ Pres c (c.put w' k o' v) := by
  have hm : isMut o = true := (rowEs_mut hr).1
  have hM : ∀ b, (c.put w' k o' v).M b → c.M b ∨ c.w.heap.size ≤ b := by
    intro b hb'
    rcases Cx.put_M hb' with ⟨k', o2, _, h2, hm2, hk2⟩ | ⟨_, hv2⟩
    · exact .inl ⟨k', o2, h2, hm2, hk2⟩
    · rcases hb b hv2 with hh | hh
      · exact .inr hh
      · exact .inl ⟨k, o, hk, hm, hh⟩
  have hblock : ∀ b, b < c.w.heap.size → (∀ q, row = some q → b ≠ q) → w'.heap[b]? = c.w.heap[b]? := fun b hlt hne => hg.block b hlt (fun e => hne b e.symm rfl)
  have hp : Pres c (c.put w' k o' v) := {
    keeps := ⟨hg.size, fun g b hlt hn => ⟨hblock b hlt (fun q hq hbq => hn (.inl ⟨k, o, hk, hm, by rw [hbq]; exact hrow q hq⟩)), fun hh => by
      rcases hh with hM' | hF
      · rcases hM b hM' with hM' | hge
        · exact hn (.inl hM')
        · omega
      · exact hn (.inr hF)⟩⟩
    n := fun _ h => h
    gone := fun j hj hn => by
      simp only [Cx.put]
      rw [upd_ne _ _ (by rintro rfl; rw [hk] at hn; cases hn)]
      exact hn
    row := fun j o2 m E2 s2 es2 ho hr2 => by
      by_cases hj : j = k
      · subst hj
        rw [hk] at ho
        cases ho
        rw [hr] at hr2
        cases hr2
        exact .inr ⟨o', true, E, es', by simp [Cx.put, upd_same], hr', hlen, fun he => by simp only [Cx.put, upd_same]; exact hsame he⟩
      · exact .inr ⟨o2, m, E2, es2, by simp only [Cx.put]; rw [upd_ne _ _ hj]; exact ho, hr2, Nat.le_refl _, fun _ => by simp only [Cx.put]; rw [upd_ne _ _ hj]⟩
    map := fun j ents ho => by
      have hj : j ≠ k := by rintro rfl; rw [hk] at ho; cases ho; simp [rowEs] at hr
      exact .inr ⟨ents, by simp only [Cx.put]; rw [upd_ne _ _ hj]; exact ho, by simp only [Cx.put]; rw [upd_ne _ _ hj]⟩
    lt := fun j o2 ho => h.lt ho }
  refine ⟨{
    fresh := fun j hj => by simp only [Cx.put] at hj ⊢; rw [upd_ne _ _ (by rintro rfl; exact hj (h.lt hk))]; exact h.fresh j hj
    ob := fun j o2 ho2 => by
      simp only [Cx.put] at ho2
      by_cases hj : j = k
      · subst hj
        rw [upd_same] at ho2
        cases ho2
        refine (obOK_row hr').2 ⟨flat, ?_, hl, hv _ hp, h1⟩
        simpa [Cx.put, upd_same] using hown
      · rw [upd_ne _ _ hj] at ho2
        refine ObOK.same hp (by simp only [Cx.put]; rw [upd_ne _ _ hj]) (fun hm2 b hb2 => ?_) (h.ob j o2 ho2)
        refine hblock b ((h.ob j o2 ho2).mut_lt hm2 hb2) fun q hq hbq => hj ?_
        exact h.inj j k o2 o b ho2 hm2 hk hm hb2 (by rw [hbq]; exact hrow q hq)
    inj := fun j j' o1 o2 b h1' m1 h2' m2 b1 b2 => by
      simp only [Cx.put] at h1' h2' b1 b2
      by_cases hj : j = k <;> by_cases hj' : j' = k
      · rw [hj, hj']
      · subst hj
        rw [upd_same] at b1
        rw [upd_ne _ _ hj'] at h2' b2
        rcases hb b b1 with hge | he
        · have := (h.ob j' o2 h2').mut_lt m2 b2; omega
        · exact h.inj j j' o o2 b hk hm h2' m2 he b2
      · subst hj'
        rw [upd_same] at b2
        rw [upd_ne _ _ hj] at h1' b1
        rcases hb b b2 with hge | he
        · have := (h.ob j o1 h1').mut_lt m1 b1; omega
        · exact h.inj j j' o1 o b h1' m1 hk hm b1 he
      · rw [upd_ne _ _ hj] at h1' b1
        rw [upd_ne _ _ hj'] at h2' b2
        exact h.inj j j' o1 o2 b h1' m1 h2' m2 b1 b2
    mnf := fun g b hM' hF => by
      rcases hM b hM' with hM' | hge
      · exact h.mnf g b hM' hF
      · have := h.bound g b hF; omega
    bound := fun g b hF => Nat.lt_of_lt_of_le (h.bound g b hF) hg.size }, hp⟩

/-- A map that is the call's own is another one now. -/
theorem put_map {c : Cx} (h : SR c) {k : Nat} {ents ents' : List (D × V)} (hk : c.S k = some (.map ents)) {w' : World} {r : Nat} (hr : c.σ k = .map (some r)) (hg : c.w.grownBy w' (some r))
    (hob : ∀ c', Pres c c' → c'.w = w' → ∃ es cl, w'.heap[r]? = some (.map es cl) ∧ MapR c' ents' es.toList) : SR (c.put w' k (.map ents') (c.σ k)) ∧ Pres c (c.put w' k (.map ents') (c.σ k)) := by
  have hM : ∀ b, (c.put w' k (.map ents') (c.σ k)).M b → c.M b := by
    intro b hb'
    rcases Cx.put_M hb' with ⟨k', o2, _, h2, hm2, hk2⟩ | ⟨_, hv2⟩
    · exact ⟨k', o2, h2, hm2, hk2⟩
    · exact ⟨k, _, hk, rfl, hv2⟩
  have hblock : ∀ b, b < c.w.heap.size → b ≠ r → w'.heap[b]? = c.w.heap[b]? := fun b hlt hne => hg.block b hlt (fun e => hne (by simpa using e))
  have hrM : c.M r := ⟨k, _, hk, rfl, by rw [hr]; rfl⟩
  have hp : Pres c (c.put w' k (.map ents') (c.σ k)) := {
    keeps := ⟨hg.size, fun g b hlt hn => ⟨hblock b hlt (by rintro rfl; exact hn (.inl hrM)), fun hh => by
      rcases hh with hM' | hF
      · exact hn (.inl (hM b hM'))
      · exact hn (.inr hF)⟩⟩
    n := fun _ h => h
    gone := fun j hj hn => by
      simp only [Cx.put]
      rw [upd_ne _ _ (by rintro rfl; rw [hk] at hn; cases hn)]
      exact hn
    row := fun j o2 m E2 s2 es2 ho hr2 => by
      have hj : j ≠ k := by rintro rfl; rw [hk] at ho; cases ho; simp [rowEs] at hr2
      exact .inr ⟨o2, m, E2, es2, by simp only [Cx.put]; rw [upd_ne _ _ hj]; exact ho, hr2, Nat.le_refl _, fun _ => by simp only [Cx.put]; rw [upd_ne _ _ hj]⟩
    map := fun j e2 ho => by
      by_cases hj : j = k
      · subst hj
        exact .inr ⟨ents', by simp [Cx.put, upd_same], by simp [Cx.put, upd_same]⟩
      · exact .inr ⟨e2, by simp only [Cx.put]; rw [upd_ne _ _ hj]; exact ho, by simp only [Cx.put]; rw [upd_ne _ _ hj]⟩
    lt := fun j o2 ho => h.lt ho }
  refine ⟨{
    fresh := fun j hj => by simp only [Cx.put] at hj ⊢; rw [upd_ne _ _ (by rintro rfl; exact hj (h.lt hk))]; exact h.fresh j hj
    ob := fun j o2 ho2 => by
      simp only [Cx.put] at ho2
      by_cases hj : j = k
      · subst hj
        rw [upd_same] at ho2
        cases ho2
        obtain ⟨es, cl, h1, h2⟩ := hob _ hp rfl
        exact ⟨r, es, cl, by simp [Cx.put, upd_same, hr], h1, h2⟩
      · rw [upd_ne _ _ hj] at ho2
        refine ObOK.same hp (by simp only [Cx.put]; rw [upd_ne _ _ hj]) (fun hm2 b hb2 => ?_) (h.ob j o2 ho2)
        refine hblock b ((h.ob j o2 ho2).mut_lt hm2 hb2) ?_
        rintro rfl
        exact hj (h.inj j k o2 _ b ho2 hm2 hk rfl hb2 (by rw [hr]; rfl))
    inj := fun j j' o1 o2 b h1' m1 h2' m2 b1 b2 => by
      simp only [Cx.put] at h1' h2' b1 b2
      by_cases hj : j = k <;> by_cases hj' : j' = k
      · rw [hj, hj']
      · subst hj
        rw [upd_same] at b1
        rw [upd_ne _ _ hj'] at h2' b2
        exact h.inj j j' _ o2 b hk rfl h2' m2 b1 b2
      · subst hj'
        rw [upd_same] at b2
        rw [upd_ne _ _ hj] at h1' b1
        exact h.inj j j' o1 _ b h1' m1 hk rfl b1 b2
      · rw [upd_ne _ _ hj] at h1' b1
        rw [upd_ne _ _ hj'] at h2' b2
        exact h.inj j j' o1 o2 b h1' m1 h2' m2 b1 b2
    mnf := fun g b hM' hF => h.mnf g b (hM b hM') hF
    bound := fun g b hF => Nat.lt_of_lt_of_le (h.bound g b hF) hg.size }, hp⟩

end Go.R

namespace Go.R

def szT (P : Program) (t : TypeId) : Option Nat := (P.info? t).map (·.size)
def byT (P : Program) (t : TypeId) : Option Nat := (P.info? t).map (·.bytes)
def aggT (P : Program) (t : TypeId) : Option Bool :=
  match P.underlying t with
  | some (.struct _) => some true
  | some (.array _ _) => some true
  | some _ => some false
  | none => none
/-- A slice type: its element type, the element's cells. -/
def slT (P : Program) (t : TypeId) : Option (TypeId × Nat) :=
  match P.underlying t with
  | some (.slice e) => (szT P e).map fun s => (e, s)
  | _ => none
def annT (P : Program) (t : TypeId) : Nat × Nat := (slT P t).getD (0, 0)

def constV (a : Nat × Nat) : Value → Option V
  | .bool b => some (.d (.bool b))
  | .int k n => some (.d (.int k n))
  | .string s => some (.d (.str s))
  | .slice none 0 0 => some (.nil a.1 a.2)
  | .pointer none => some (.d .nilptr)
  | .nilFunc => some (.d .nilfunc)
  | .map none => some .nilmp
  | _ => none

def trOpd (a : Nat × Nat) : Operand → Option Opd
  | .tmp t => some (.t t)
  | .const v => (constV a v).map .k
  | .func f => some (.k (.d (.func (.func f) [] [])))
  | .global _ => none

/-- The types of a variable's cells. -/
def cellTs (P : Program) : Nat → TypeId → List TypeId
  | 0, t => [t]
  | k + 1, t => match P.underlying t with
    | some (.struct fs) => fs.toList.flatMap fun f => cellTs P k f.type
    | some (.array n e) => (List.replicate n (cellTs P k e)).flatten
    | _ => [t]

def zeroCells (P : Program) (t : TypeId) : Option (List V) :=
  match P.info? t with
  | some i => match i.zero with
    | some z =>
      let ts := cellTs P 10 t
      if ts.length = z.cells.size then mapO (fun p => constV (annT P p.1) p.2) (ts.zip z.cells.toList) else none
    | none => none
  | none => none

def zeroV (P : Program) (t : TypeId) : Option V :=
  match P.info? t with
  | some i => match i.zero with
    | some (.agg _) => (zeroCells P t).map mkAgg
    | some (.tuple _) => none
    | some _ => match zeroCells P t with
      | some [x] => some x
      | _ => none
    | none => none
  | none => none

def isNilSlice : Operand → Bool
  | .const (.slice none 0 0) => true
  | _ => false

def isIntT (P : Program) (t : TypeId) : Bool :=
  match P.underlying t with
  | some (.int _) => true
  | some .string => true
  | _ => false
def isBoolT (P : Program) (t : TypeId) : Bool :=
  match P.underlying t with
  | some .bool => true
  | _ => false

def kindT (P : Program) (t : TypeId) : Nat :=
  match P.underlying t with
  | some .bool => 0
  | some (.int _) => 1
  | some .string => 2
  | _ => 3

/-- A struct type that '==' compares cell by cell: the kinds of its fields. -/
def flatT (P : Program) (t : TypeId) : Option (List Nat) :=
  match P.underlying t with
  | some (.struct fs) => if (fs.toList.zipIdx.all (fun p => p.1.name != "_" && p.1.offset == p.2) && !P.stoodInHeld t && !P.eqGuardType P.depth t) = true then
      some (fs.toList.map fun f => kindT P f.type) else none
  | _ => none

def okZ (P : Program) (e s : Nat) : Bool :=
  match P.info? e with
  | some i => match i.zero with
    | some z => z.cells.size == s
    | none => false
  | none => false

def trOp (P : Program) (o : Oper) : Option AOp :=
  match o.op with
  | .move x => if isNilSlice x then (slT P o.type).map fun p => .nilv p.1 p.2 else (trOpd (0, 0) x).map .mv
  | .assign x => if isNilSlice x then (slT P o.type).map fun p => .nilv p.1 p.2 else (trOpd (0, 0) x).map .mv
  | .pick c a b => match trOpd (0, 0) c, trOpd (annT P o.type) a, trOpd (annT P o.type) b with
    | some c, some a, some b => some (.pick c a b)
    | _, _, _ => none
  | .alloc e => (zeroCells P e).map fun zs => .nbox e zs
  | .box e x => match szT P e, trOpd (annT P e) x with
    | some n, some x => some (.box e n x)
    | _, _ => none
  | .build t ps => match P.underlying t, zeroCells P t, aggT P t with
    | some (.struct fs), some zs, some true => if fs.all (fun f => (szT P f.type).isSome) = true then
      (mapO (fun p : Nat × Operand => match fs[p.1]? with
        | some f => match szT P f.type, trOpd (annT P f.type) p.2 with
          | some s, some x => some (f.offset, s, x)
          | _, _ => none
        | none => none) ps.toList).map fun l => .build zs l
      else none
    | _, _, _ => none
  | .buildSlice t len ps => match slT P t with
    | some (e, s) => match zeroCells P e, mapO (fun p : Nat × Operand => (trOpd (annT P e) p.2).map fun x => (p.1, x)) ps.toList with
      | some zs, some l => if 0 < s then some (.bsl e s len zs l) else none
      | _, _ => none
    | none => none
  | .load t a => match szT P t, aggT P t, trOpd (0, 0) a with
    | some n, some b, some a => if b = true ∨ n = 1 then some (.ld n b a) else none
    | _, _, _ => none
  | .store t a x => match szT P t, trOpd (0, 0) a, trOpd (annT P t) x with
    | some n, some a, some x => some (.st n a x)
    | _, _, _ => none
  | .nilCheck x => (trOpd (0, 0) x).map fun x => .fa 0 x
  | .binOp op t x y _ => if isNilSlice y then
      (match P.underlying t, op with
       | some (.slice _), .eql => (trOpd (annT P t) x).map (.isn false)
       | some (.slice _), .neq => (trOpd (annT P t) x).map (.isn true)
       | _, _ => none)
    else match trOpd (0, 0) x, trOpd (0, 0) y with
    | some x, some y =>
      if isIntT P t then some (.bin op x y)
      else if isBoolT P t then (match op with
        | .eql => some (.beq false x y)
        | .neq => some (.beq true x y)
        | _ => none)
      else match flatT P t with
        | some ks => (match op with
          | .eql => some (.eqa false ks x y)
          | .neq => some (.eqa true ks x y)
          | _ => none)
        | none => none
    | _, _ => none
  | .unOp op _ x => (trOpd (0, 0) x).map fun x => .un op x
  | .fieldAddr s x i => match P.underlying s, trOpd (0, 0) x with
    | some (.struct fs), some x => match fs[i]? with
      | some f => match szT P f.type with
        | some n => if n = 0 then none else some (.fa f.offset x)
        | none => none
      | none => none
    | _, _ => none
  | .field s x i => match P.underlying s, trOpd (0, 0) x with
    | some (.struct fs), some x => match fs[i]? with
      | some f => match szT P f.type, aggT P f.type with
        | some n, some b => if b = true ∨ n = 1 then some (.fld f.offset n b x) else none
        | _, _ => none
      | none => none
    | _, _ => none
  | .indexAddr t x i => match slT P t, trOpd (0, 0) x, trOpd (0, 0) i with
    | some (_, s), some x, some i => some (.ia s x i)
    | _, _, _ => none
  | .slice t x lo hi none => match slT P t, trOpd (annT P t) x with
    | some (_, s), some x => match lo.map (trOpd (0, 0)), hi.map (trOpd (0, 0)) with
      | none, none => some (.slc s x none none)
      | some (some l), none => some (.slc s x (some l) none)
      | none, some (some h) => some (.slc s x none (some h))
      | some (some l), some (some h) => some (.slc s x (some l) (some h))
      | _, _ => none
    | _, _ => none
  | .makeSlice t l c => match slT P t, trOpd (0, 0) l, trOpd (0, 0) c with
    | some (e, s), some l, some c => match zeroCells P e, byT P e with
      | some zs, some b => if 0 < s then some (.mks e s b zs l c) else none
      | _, _ => none
    | _, _, _ => none
  | .extract t i => (trOpd (0, 0) t).map fun x => .ext i x
  | .makeFunc fn fst caps => match mapO (trOpd (0, 0)) fst.toList, mapO (trOpd (0, 0)) caps.toList with
    | some a, some b => some (.mkf fn a b)
    | _, _ => none
  | .makeMap _ none => some .mkmap
  | .lookup t m k ok => match P.underlying t with
    | some (.map kt e) => match zeroV P e, trOpd (0, 0) m, trOpd (0, 0) k with
      | some z, some m, some k => if kindT P kt ≠ 3 then some (.lkp ok (kindT P kt) z m k) else none
      | _, _, _ => none
    | _ => none
  | .mapUpdate t m k v => match P.underlying t with
    | some (.map kt e) => match trOpd (0, 0) m, trOpd (0, 0) k, trOpd (annT P e) v with
      | some m, some k, some v => if kindT P kt ≠ 3 then some (.mup (kindT P kt) m k v) else none
      | _, _, _ => none
    | _ => none
  | .call c => match c.callee with
    | .value f => match trOpd (0, 0) f, mapO (fun p : Operand × TypeId => trOpd (annT P p.2) p.1) (c.args.toList.zip (c.argTypes.toList ++ List.replicate c.args.size 0)) with
      | some f, some xs => if xs.length = c.args.size then some (.call f xs) else none
      | _, _ => none
    | .invoke _ _ => none
    | .builtin b => match b, c.args.toList, c.argTypes.toList with
      | .len, [x], [t] => match P.underlying t with
        | some (.slice _) => (trOpd (annT P t) x).map (.len false)
        | some .string => (trOpd (0, 0) x).map (.len true)
        | _ => none
      | .append, [x, y], [t, u] => if t = u then
          (match slT P t, trOpd (annT P t) x, trOpd (annT P t) y with
          | some (e, s), some x, some y => match byT P e with
            | some b => if (decide (0 < s) && decide (0 < b) && okZ P e s) = true then some (.app e s b x y) else none
            | none => none
          | _, _, _ => none)
        else none
      | .max, l, _ => (mapO (trOpd (0, 0)) l).map .mx
      | .min, l, _ => (mapO (trOpd (0, 0)) l).map .mn
      | _, _, _ => none
  | _ => none

def dstOk (nt : Nat) : Option Nat → Bool
  | some d => decide (d < nt)
  | none => true

def trOper (P : Program) (nt : Nat) (ops : Array Oper) (o : Oper) : Option AI :=
  match trOp P o with
  | none => none
  | some a =>
    if dstOk nt o.dst = true then
      (match o.guard with
       | none => some ⟨o.dst, a, none⟩
       | some (j, b) => match (ops[j]?).bind (·.dst) with
         | some d => some ⟨o.dst, a, some (d, b)⟩
         | none => none)
    else none

def touches : AOp → Bool
  | .ld _ _ _ => true
  | .st _ _ _ => true
  | .call _ _ => true
  | .app _ _ _ _ _ => true
  | .lkp _ _ _ _ _ => true
  | .mup _ _ _ _ => true
  | _ => false
def changes : AOp → Bool
  | .st _ _ _ => true
  | .call _ _ => true
  | .app _ _ _ _ _ => true
  | .mup _ _ _ _ => true
  | _ => false

def makes : AOp → Bool
  | .nilv _ _ => true
  | .nbox _ _ => true
  | .box _ _ _ => true
  | .bsl _ _ _ _ _ => true
  | .st _ _ _ => true
  | .mks _ _ _ _ _ _ => true
  | .call _ _ => true
  | .app _ _ _ _ _ => true
  | .mkmap => true
  | _ => false

/-- What each operation of a region has ahead of it in every order (by the edges that bind always). -/
def ahead (ops : Array Oper) : Array Nat := Region.before ops

/-- The pairs whose order is open, and that may meet. -/
def openPairs (b : Array Nat) (l : List AI) : List (Nat × Nat) :=
  l.zipIdx.flatMap fun q => l.zipIdx.filterMap fun p =>
    if p.2 < q.2 ∧ (b.getD q.2 0).testBit p.2 = false ∧ ((touches p.1.op = true ∧ touches q.1.op = true ∧ (changes p.1.op = true ∨ changes q.1.op = true)) ∨ (touches q.1.op = true ∧ makes p.1.op = true) ∨ (touches p.1.op = true ∧ makes q.1.op = true)) then some (p.2, q.2) else none

def opdTs : Opd → List Nat
  | .t i => [i]
  | .k _ => []
def opTs : AOp → List Nat
  | .mv x => opdTs x
  | .nilv _ _ => []
  | .pick c a b => opdTs c ++ opdTs a ++ opdTs b
  | .nbox _ _ => []
  | .box _ _ x => opdTs x
  | .build _ ps => ps.flatMap fun p => opdTs p.2.2
  | .bsl _ _ _ _ ps => ps.flatMap fun p => opdTs p.2
  | .ld _ _ a => opdTs a
  | .st _ a x => opdTs a ++ opdTs x
  | .bin _ x y => opdTs x ++ opdTs y
  | .beq _ x y => opdTs x ++ opdTs y
  | .isn _ x => opdTs x
  | .eqa _ _ x y => opdTs x ++ opdTs y
  | .un _ x => opdTs x
  | .fa _ a => opdTs a
  | .fld _ _ _ x => opdTs x
  | .ia _ x i => opdTs x ++ opdTs i
  | .slc _ x lo hi => opdTs x ++ (match lo with | some l => opdTs l | none => []) ++ (match hi with | some h => opdTs h | none => [])
  | .mks _ _ _ _ l c => opdTs l ++ opdTs c
  | .ext _ x => opdTs x
  | .call f xs => opdTs f ++ xs.flatMap opdTs
  | .len _ x => opdTs x
  | .app _ _ _ x y => opdTs x ++ opdTs y
  | .mx xs => xs.flatMap opdTs
  | .mn xs => xs.flatMap opdTs
  | .mkf _ a b => a.flatMap opdTs ++ b.flatMap opdTs
  | .mkmap => []
  | .lkp _ _ _ m k => opdTs m ++ opdTs k
  | .mup _ m k v => opdTs m ++ opdTs k ++ opdTs v
def looksAI (i : AI) : List Nat := opTs i.op ++ (match i.g with | some (t, _) => [t] | none => [])

/-- In a region of open order: what two operations name alike is ordered. -/
def tmpsOk (b : Array Nat) (l : List AI) : Bool :=
  l.zipIdx.all fun q => l.zipIdx.all fun p => !(decide (p.2 < q.2) && !(b.getD q.2 0).testBit p.2) ||
    ((match p.1.dst with | some d => !(looksAI q.1).contains d && q.1.dst != some d | none => true) && (match q.1.dst with | some d => !(looksAI p.1).contains d | none => true))

/-- The always-binding edges lead back, and `ahead` holds what is ahead of what is ahead. -/
def aheadOk (ops : Array Oper) (b : Array Nat) : Bool :=
  ops.toList.zipIdx.all fun q => q.1.after.toList.all fun e => !Region.binds .any e || (decide (e.on < q.2))

def trRg (P : Program) (nt : Nat) (ops : Array Oper) (draw : Bool) : Option AC :=
  match mapO (trOper P nt ops) ops.toList with
  | none => none
  | some l => if draw then
      (let b := ahead ops
       if tmpsOk b l && aheadOk ops b then some (.rgd l (openPairs b l)) else none)
    else some (.rg l)

def trC (P : Program) (nt : Nat) : Code → Option AC
  | .skip => some .skip
  | .region _ ops draw => trRg P nt ops draw
  | .seq a b => match trC P nt a, trC P nt b with
    | some a, some b => some (.seq a b)
    | _, _ => none
  | .cond c a b => match trOpd (0, 0) c, trC P nt a, trC P nt b with
    | some c, some a, some b => some (.cond c a b)
    | _, _, _ => none
  | .block id a => (trC P nt a).map (.blk id)
  | .loop a => (trC P nt a).map .lp
  | .exit id => some (.exit id)
  | .ret => some .ret
  | _ => none

def erase : AC → AC
  | .seq a b => .seq (erase a) (erase b)
  | .cond c a b => .cond c (erase a) (erase b)
  | .both p c a b k => .seq (.seq (erase p) (.cond c (erase a) (erase b))) (erase k)
  | .blk id a => .blk id (erase a)
  | .lp a => .lp (erase a)
  | .kl _ a => erase a
  | .att _ _ _ a => erase a
  | x => x

def trRes (P : Program) : ResultVar → Option Rs
  | .tmp t => some (.tmp t)
  | .cell a t => match szT P t, aggT P t with
    | some n, some b => if b = true ∨ n = 1 then some (.cell a n b) else none
    | _, _ => none

def trF (P : Program) (F : Func) : Option FnI :=
  match F.body with
  | none => none
  | some c => match trC P F.ntmps c, mapO (trRes P) F.results.toList with
    | some a, some r => if F.params.size + F.nfree ≤ F.ntmps then some ⟨a, F.params.size + F.nfree, F.ntmps, r⟩ else none
    | _, _ => none

end Go.R
