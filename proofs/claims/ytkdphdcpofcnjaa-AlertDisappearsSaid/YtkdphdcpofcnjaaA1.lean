/- Part of the proofs of the statements on alerts: texts that the last text is built on. -/
import Derived.Calls
import Derived.Orders
import Derived.WalkKit
import Derived.WalkSpells
/- Abs1: abstract values (slices by value), a small instruction language over them and its weakest preconditions. Nothing of the model is asked here but its kinds of integers. -/
namespace Abs
open Go

/-- What is known of a slice's spare room: nothing; its capacity is its length; the token that lets one append write there. -/
inductive Tag where
  | no | full | tok (t : Nat)
  deriving DecidableEq, Repr, Inhabited

/-- The tokens that are left when a slice is appended to. -/
def Tag.spend (t : Tag) (al : List Nat) : List Nat :=
  match t with
  | .tok u => al.erase u
  | _ => al

inductive AV where
  | bool (b : Bool)
  | int (k : IntKind) (n : Int)
  | str (s : ByteArray)
  | nilp
  | lp (d i o : Nat)
  | hp (l i o : Nat)
  | rp (cs : List AV)
  | nils
  | sl (s : Nat) (xs : List (List AV)) (t : Tag)      -- s: the cells of an element
  | lm (d s off len : Nat)
  | hm (l s off len cap : Nat)                        -- a mutable array of the heap
  | nilm
  | lmap (d : Nat)
  | hmap (l : Nat)
  | fn (f : Nat) (first captured : List AV)
  | nilf
  | ifc (t : Nat) (v : AV)
  | nili
  | agg (cs : List AV)
  | tup (vs : List AV)
  deriving Inhabited

/-- The local object that a value leads to. -/
def AV.names : AV → Option Nat
  | .lp d _ _ => some d
  | .lm d _ _ _ => some d
  | .lmap d => some d
  | _ => none

def AV.plain (v : AV) : Bool := v.names.isNone

def AV.isSlice : AV → Bool
  | .nils | .sl .. | .hm .. => true
  | _ => false

/-- The value of one cell. -/
def AV.one : AV → Bool
  | .agg _ | .tup _ | .lp .. | .lm .. | .lmap _ => false
  | _ => true

/-- What can be stored. -/
def AV.fit : AV → Bool
  | .agg _ => true
  | v => v.one

def AV.cells : AV → List AV
  | .agg cs => cs
  | v => [v]

inductive AObj where
  | arr (s : Nat) (xs : List (List AV))
  | map (ag : Bool) (ks : List Nat) (es : List (List AV × AV))     -- keys by their cells, all of these kinds
  | dead
  deriving Inhabited

abbrev Env := Nat → Option AV
abbrev Loc := Nat → Option AObj

def Env.set (e : Env) (k : Nat) (v : Option AV) : Env := fun j => if j = k then v else e j
def Loc.set (e : Loc) (k : Nat) (v : Option AObj) : Loc := fun j => if j = k then v else e j
def Env.nil : Env := fun _ => none
def Loc.nil : Loc := fun _ => none
def Env.put (e : Env) : Option Nat → Option AV → Env
  | none, _ => e
  | some k, v => e.set k v

/-- The objects that escape, by name; the tokens that are alive. -/
structure AHeap where
  os : Nat → Option AObj
  al : List Nat

def AHeap.set (h : AHeap) (l : Nat) (o : Option AObj) : AHeap := { h with os := fun j => if j = l then o else h.os j }

/-- Fewer objects, fewer tokens. -/
def AHeap.le (a b : AHeap) : Prop := (∀ l o, a.os l = some o → b.os l = some o) ∧ a.al.Sublist b.al

structure ASt where
  env : Env
  loc : Loc
  h : AHeap

inductive Opd where
  | t (n : Nat)
  | c (v : AV)
  | f (f : Nat)
  deriving Inhabited

def ASt.ev (s : ASt) : Opd → Option AV
  | .t n => s.env n
  | .c v => some v
  | .f f => some (.fn f [] [])

def ASt.evs (s : ASt) : List Opd → Option (List AV)
  | [] => some []
  | x :: r => match s.ev x, s.evs r with
    | some v, some vs => some (v :: vs)
    | _, _ => none

inductive Bop where
  | add | sub | mul | quo | rem | eq | ne | lt | le | gt | ge
  deriving DecidableEq, Repr, Inhabited

/-- The kinds of instructions; what the types say (offsets, sizes, bounds) stands in them. -/
inductive AK where
  | mov
  | pick
  | nilc                                   -- nilCheck
  | bin (op : Bop)                         -- two integers of one kind; two strings
  | beq (neg : Bool)                       -- two bools
  | isn (neg : Bool)                       -- a slice against nil
  | eqs (neg : Bool) (ks : List Nat)       -- two structs of plain cells, of these kinds
  | not | neg
  | conv (k : IntKind)
  | fld (off : Nat)                        -- an address, so many cells on
  | ld (n : Nat) (agg : Bool)              -- a load from a local object or from what never changes
  | ldh (n : Nat) (agg : Bool)             -- a load from the heap
  | part (off n : Nat) (agg : Bool)        -- a field of a struct value
  | build (zs : List AV) (parts : List (Nat × Nat))
  | bslice (n s : Nat) (zs : List AV) (ps : List Nat)
  | ix (s : Nat)
  | ixa (n s : Nat)                        -- of an array, by its address
  | ixv (n s : Nat) (agg : Bool)           -- of an array's value
  | ixs
  | len                                    -- of a slice
  | lens                                   -- of a string
  | ext (i : Nat)
  | mx | mn
  | mkf (f : Nat) (first : Nat)
  | mki (t : Nat)
  | newl (d : Nat) (zs : List AV)
  | boxl (d : Nat)
  | newh (zs : List AV)
  | boxh
  | st (n : Nat)
  | sth (n : Nat)
  | mkl (d : Nat) (zs : List AV) (mx : Nat)          -- make([]T, n): a local array
  | mkh (zs : List AV) (mx : Nat)
  | app (s mx : Nat)
  | appm (zs : List AV) (mx : Nat)         -- an append that yields a mutable array
  | cpy (s : Nat) | clr (zs : List AV)
  | slc (s : Nat) (lo hi max : Bool)
  | slcs (lo hi : Bool)
  | mml (d : Nat) (ag : Bool) (ks : List Nat)
  | mmh (ag : Bool) (ks : List Nat)
  | lkl (ag : Bool) (ks : List Nat) (z : AV) (ok : Bool) | lkh (ag : Bool) (ks : List Nat) (z : AV) (ok : Bool)
  | upl (ag : Bool) (ks : List Nat) | uph (ag : Bool) (ks : List Nat)
  | lenm
  | call (f : Nat)
  | callp (f : Nat)                        -- a call that leaves the heap alone
  | callv
  | cat
  | dead                                   -- never reached
  deriving Inhabited

structure AIns where
  idx : Nat
  g : Option (Nat × Bool)
  dst : Option Nat
  k : AK
  args : List Opd
  kl : List (Opd × Nat × Bool) := []       -- loads that this instruction must leave as they are
  deriving Inhabited

inductive ACode where
  | skip
  | reg (draw : Option (List Nat)) (ins : List AIns) (keep lkeep : List Nat)
  | seq (a b : ACode)
  | cond (c : Opd) (thn els : ACode)
  | block (id : Nat) (body : ACode)
  | loop (body : ACode)
  | exit (id : Nat)
  | ret
  | frz (t : Nat)                          -- a ghost: a mutable array in a slot becomes a value
  | frzo (d i j : Nat)                     -- the same, in a cell of a local object
  deriving Inhabited

inductive AExit where
  | normal | exit (id : Nat) | ret
  deriving DecidableEq, Repr, Inhabited

/-! ### What the passive instructions answer -/

def binV : Bop → AV → AV → Option AV
  | .add, .int k a, .int j b => if k = j then some (.int k (k.wrap (a + b))) else none
  | .sub, .int k a, .int j b => if k = j then some (.int k (k.wrap (a - b))) else none
  | .mul, .int k a, .int j b => if k = j then some (.int k (k.wrap (a * b))) else none
  | .quo, .int k a, .int j b => if k = j ∧ b ≠ 0 then some (.int k (k.wrap (a.tdiv b))) else none
  | .rem, .int k a, .int j b => if k = j ∧ b ≠ 0 then some (.int k (a.tmod b)) else none
  | .eq, .int k a, .int j b => if k = j then some (.bool (decide (a = b))) else none
  | .ne, .int k a, .int j b => if k = j then some (.bool (!decide (a = b))) else none
  | .lt, .int k a, .int j b => if k = j then some (.bool (decide (a < b))) else none
  | .le, .int k a, .int j b => if k = j then some (.bool (decide (a ≤ b))) else none
  | .gt, .int k a, .int j b => if k = j then some (.bool (decide (a > b))) else none
  | .ge, .int k a, .int j b => if k = j then some (.bool (decide (a ≥ b))) else none
  | .eq, .str a, .str b => some (.bool (decide (a = b)))
  | .ne, .str a, .str b => some (.bool (!decide (a = b)))
  | .lt, .str a, .str b => some (.bool (Op.bytesLess a.toList b.toList))
  | .gt, .str a, .str b => some (.bool (!(Op.bytesLess a.toList b.toList || decide (a = b))))
  | .le, .str a, .str b => some (.bool (Op.bytesLess a.toList b.toList || decide (a = b)))
  | .ge, .str a, .str b => some (.bool (!Op.bytesLess a.toList b.toList))
  | _, _, _ => none

/-- Kinds of plain cells, as numbers: 1 string, 2 bool, 3.. integers. -/
def IntKindNo : IntKind → Nat
  | .i8 => 3 | .i16 => 4 | .i32 => 5 | .i64 => 6 | .u8 => 7 | .u16 => 8 | .u32 => 9 | .u64 => 10
def AV.kindNo : AV → Nat
  | .str _ => 1
  | .bool _ => 2
  | .int k _ => IntKindNo k
  | _ => 0

open Classical in
noncomputable def eqV (neg : Bool) (ks : List Nat) (xs ys : List AV) : Option AV :=
  if xs.map AV.kindNo = ks ∧ ys.map AV.kindNo = ks then some (.bool (decide (xs = ys) != neg)) else none

def valOf (agg : Bool) (n : Nat) (cs : List AV) : Option AV :=
  if agg then (if n ≤ cs.length then some (.agg (cs.take n)) else none) else cs.head?

def objCells (o : Option AObj) (i j : Nat) : Option (List AV) :=
  match o with
  | some (.arr _ xs) => (xs[i]?).map (·.drop j)
  | _ => none

def ldV (loc : Loc) (n : Nat) (agg : Bool) : AV → Option AV
  | .lp d i j => (objCells (loc d) i j).bind (valOf agg n)
  | .rp cs => valOf agg n cs
  | _ => none

def ldhV (loc : Loc) (h : AHeap) (n : Nat) (agg : Bool) : AV → Option AV
  | .hp l i j => (objCells (h.os l) i j).bind (valOf agg n)
  | p => ldV loc n agg p

def fldV (off : Nat) : AV → Option AV
  | .lp d i o => some (.lp d i (o + off))
  | .hp l i o => some (.hp l i (o + off))
  | .rp cs => some (.rp (cs.drop off))
  | _ => none

/-- A struct's cells out of its zero and its parts. -/
def buildV : List AV → List (Nat × Nat) → List AV → Option (List AV)
  | cs, [], [] => some cs
  | cs, (off, n) :: ps, v :: vs =>
    if v.cells.length = n ∧ off + n ≤ cs.length ∧ v.fit = true then buildV (cs.take off ++ v.cells ++ cs.drop (off + n)) ps vs else none
  | _, _, _ => none

def elemsV (s : Nat) : List (List AV) → List Nat → List AV → Option (List (List AV))
  | xs, [], [] => some xs
  | xs, i :: ps, v :: vs => if v.cells.length = s ∧ i < xs.length ∧ v.fit = true then elemsV s (xs.set i v.cells) ps vs else none
  | _, _, _ => none

def ixV (s : Nat) (i : Int) : AV → Option AV
  | .sl s' xs _ => if s' = s ∧ 0 ≤ i then (xs[i.toNat]?).map .rp else none
  | .lm d s' off len => if s' = s ∧ 0 ≤ i ∧ i < len then some (.lp d (off + i.toNat) 0) else none
  | .hm l s' off len _ => if s' = s ∧ 0 ≤ i ∧ i < len then some (.hp l (off + i.toNat) 0) else none
  | _ => none

def lenV : AV → Option AV
  | .nils => some (.int .i64 0)
  | .sl _ xs _ => some (.int .i64 xs.length)
  | .lm _ _ _ n => some (.int .i64 n)
  | .hm _ _ _ n _ => some (.int .i64 n)
  | _ => none

def minmaxV (mx : Bool) : AV → List AV → Option AV
  | v, [] => some v
  | .int k a, .int j b :: r => if k = j then minmaxV mx (.int k (if mx then max a b else min a b)) r else none
  | _, _ => none

def chkB (n : Nat) (l h : Int) : Option (Nat × Nat × Option Nat) := if 0 ≤ l ∧ l ≤ h ∧ h ≤ n then some (l.toNat, h.toNat, none) else none
def chkB3 (n : Nat) (l h m : Int) : Option (Nat × Nat × Option Nat) := if 0 ≤ l ∧ l ≤ h ∧ h ≤ m ∧ m ≤ n then some (l.toNat, h.toNat, some m.toNat) else none

/-- 'x[lo:hi:max]': the bounds that are there, in this order. -/
def bounds3 (n : Nat) : Bool → Bool → Bool → List AV → Option (Nat × Nat × Option Nat)
  | false, false, false, [] => some (0, n, none)
  | true, false, false, [.int _ l] => chkB n l n
  | false, true, false, [.int _ h] => chkB n 0 h
  | true, true, false, [.int _ l, .int _ h] => chkB n l h
  | false, true, true, [.int _ h, .int _ m] => chkB3 n 0 h m
  | true, true, true, [.int _ l, .int _ h, .int _ m] => chkB3 n l h m
  | _, _, _, _ => none

/-- A slice's slice. A third bound that is the length makes it full. -/
def slcV (sz : Nat) (lo hi mx : Bool) : AV → List AV → Option AV
  | .nils, vs => match bounds3 0 lo hi mx vs with
    | some _ => some .nils
    | none => none
  | .sl s xs t, vs => if s ≠ sz then none else match bounds3 xs.length lo hi mx vs with
    | some (l, h, some m) => if m = h then some (.sl s ((xs.take h).drop l) .full) else none
    | some (l, h, none) => some (.sl s ((xs.take h).drop l) (if lo || hi then .no else t))
    | none => none
  | .hm l s off len c, vs => if s ≠ sz then none else match bounds3 len lo hi false vs with
    | some (l', h', none) => if mx then none else some (.hm l s (if c = l' then off else off + l') (h' - l') (c - l'))
    | _ => none
  | _, _ => none

def slcsV (lo hi : Bool) : AV → List AV → Option AV
  | .str s, vs => match bounds3 s.size lo hi false vs with
    | some (l, h, _) => some (.str (s.extract l h))
    | none => none
  | _, _ => none

/-- An entry of a map, by the key's cells. -/
noncomputable def findE : List (List AV × AV) → List AV → Option AV
  | [], _ => none
  | (k, v) :: r, key => open Classical in if k = key then some v else findE r key

noncomputable def setE : List (List AV × AV) → List AV → AV → List (List AV × AV)
  | [], k, v => [(k, v)]
  | (k', v') :: r, k, v => open Classical in if k' = k then (k, v) :: r else (k', v') :: setE r k v

def AV.isAgg : AV → Bool
  | .agg _ => true
  | _ => false

noncomputable def lkV (o : Option AObj) (ag0 : Bool) (ks0 : List Nat) (z : AV) (ok : Bool) (key : AV) : Option AV :=
  match o with
  | some (.map ag ks es) =>
    if (ag0 = ag ∧ ks0 = ks) ∧ key.isAgg = ag ∧ key.cells.map AV.kindNo = ks then
      (if ok then some (.tup [(findE es key.cells).getD z, .bool (findE es key.cells).isSome]) else some ((findE es key.cells).getD z))
    else none
  | _ => none

/-- What a passive instruction answers; the local objects behind it. -/
noncomputable def pval (loc : Loc) (h : AHeap) : AK → List AV → Option (AV × Loc)
  | .mov, [x] => some (x, loc)
  | .pick, [x] => some (x, loc)
  | .nilc, [x] => match x with
    | .lp .. | .hp .. | .rp _ | .fn .. => some (x, loc)
    | _ => none
  | .bin op, [x, y] => (binV op x y).map (·, loc)
  | .beq n, [.bool x, .bool y] => some (.bool ((x == y) != n), loc)
  | .isn n, [.nils] => some (.bool (!n), loc)
  | .isn n, [.sl _ _ _] => some (.bool n, loc)
  | .eqs n ks, [.agg xs, .agg ys] => (eqV n ks xs ys).map (·, loc)
  | .not, [.bool b] => some (.bool (!b), loc)
  | .neg, [.int k n] => some (.int k (k.wrap (0 - n)), loc)
  | .conv k, [.int _ n] => some (.int k (k.wrap n), loc)
  | .fld off, [p] => (fldV off p).map (·, loc)
  | .ld n a, [p] => (ldV loc n a p).map (·, loc)
  | .ldh n a, [p] => (ldhV loc h n a p).map (·, loc)
  | .part off n a, [.agg cs] => (valOf a n (cs.drop off)).map (·, loc)
  | .build zs ps, vs => (buildV zs ps vs).map fun cs => (.agg cs, loc)
  | .bslice n s zs ps, vs => (elemsV s (List.replicate n zs) ps vs).map fun xs => (.sl s xs .full, loc)
  | .ix s, [x, .int _ i] => (ixV s i x).map (·, loc)
  | .ixa n s, [p, .int _ i] => if 0 ≤ i ∧ i < n then (fldV (i.toNat * s) p).map (·, loc) else none
  | .ixv n s a, [.agg cs, .int _ i] => if 0 ≤ i ∧ i < n then (valOf a s (cs.drop (i.toNat * s))).map (·, loc) else none
  | .ixs, [.str s, .int _ i] => if 0 ≤ i then (s.data.toList[i.toNat]?).map fun b => (.int .u8 b.toNat, loc) else none
  | .len, [x] => (lenV x).map (·, loc)
  | .lens, [.str s] => some (.int .i64 s.size, loc)
  | .ext i, [.tup vs] => (vs[i]?).map (·, loc)
  | .mx, v :: vs => (minmaxV true v vs).map (·, loc)
  | .mn, v :: vs => (minmaxV false v vs).map (·, loc)
  | .mkf f n, vs => if vs.all AV.plain then some (.fn f (vs.take n) (vs.drop n), loc) else none
  | .mki t, [x] => if x.plain then some (.ifc t x, loc) else none
  | .newl d zs, [] => if (loc d).isNone then some (.lp d 0 0, loc.set d (some (.arr zs.length [zs]))) else none
  | .boxl d, [x] => if (loc d).isNone ∧ x.fit then some (.lp d 0 0, loc.set d (some (.arr x.cells.length [x.cells]))) else none
  | .mkl d zs mx, [.int _ n] => if (loc d).isNone ∧ 0 ≤ n ∧ n ≤ mx then some (.lm d zs.length 0 n.toNat, loc.set d (some (.arr zs.length (List.replicate n.toNat zs)))) else none
  | .slc sz lo hi mx, x :: vs => (slcV sz lo hi mx x vs).map (·, loc)
  | .slcs lo hi, x :: vs => (slcsV lo hi x vs).map (·, loc)
  | .mml d ag ks, [] => if (loc d).isNone then some (.lmap d, loc.set d (some (.map ag ks []))) else none
  | .lkl ag ks z ok, [.lmap d, key] => (lkV (loc d) ag ks z ok key).map (·, loc)
  | .lkh ag ks z ok, [.hmap l, key] => (lkV (h.os l) ag ks z ok key).map (·, loc)
  | .lenm, [.lmap d] => match loc d with
    | some (.map _ _ es) => some (.int .i64 es.length, loc)
    | _ => none
  | .cat, [.str a, .str b] => if a.size + b.size ≤ 9223372036854775807 then some (.str (a ++ b), loc) else none
  | _, _ => none

/-- What becomes of a list of elements when cells are written from cell j of element i on. -/
def wrElem (xs : List (List AV)) (i j : Nat) (cs : List AV) : Option (List (List AV)) :=
  match xs[i]? with
  | some e => if j + cs.length ≤ e.length then some (xs.set i (e.take j ++ cs ++ e.drop (j + cs.length))) else none
  | none => none

def wrObj (o : Option AObj) (i j : Nat) (cs : List AV) : Option AObj :=
  match o with
  | some (.arr s xs) => (wrElem xs i j cs).map (.arr s)
  | _ => none

/-- A contract: a function, its arguments, the heap; what is asked of its answer and the heap behind it. -/
abbrev Con := Nat → List AV → AHeap → (AV → AHeap → Prop) → Prop

/-- The instructions that act. -/
def act (C : Con) (loc : Loc) (h : AHeap) (K : AV → Loc → AHeap → Prop) : AK → List AV → Prop
  | .newh zs, [] => ∀ l, h.os l = none → K (.hp l 0 0) loc (h.set l (some (.arr zs.length [zs])))
  | .boxh, [x] => x.fit = true ∧ ∀ l, h.os l = none → K (.hp l 0 0) loc (h.set l (some (.arr x.cells.length [x.cells])))
  | .mkh zs mx, [.int _ n] => 0 ≤ n ∧ n ≤ mx ∧ ∀ l, h.os l = none → K (.hm l zs.length 0 n.toNat n.toNat) loc (h.set l (some (.arr zs.length (List.replicate n.toNat zs))))
  | .mmh ag ks, [] => ∀ l, h.os l = none → K (.hmap l) loc (h.set l (some (.map ag ks [])))
  | .st n, [.lp d i j, x] => x.fit = true ∧ x.cells.length = n ∧ ∃ o, wrObj (loc d) i j x.cells = some o ∧ K (.tup []) (loc.set d (some o)) h
  | .sth n, [.hp l i j, x] => x.fit = true ∧ x.cells.length = n ∧ ∃ o, wrObj (h.os l) i j x.cells = some o ∧ K (.tup []) loc (h.set l (some o))
  | .appm zs mx, [x, y] =>
    ∃ ys, ((y = .nils ∧ ys = []) ∨ ∃ tg', y = .sl zs.length ys tg') ∧ (ys = [] → x.isSlice = true ∧ K x loc h) ∧ (ys ≠ [] →
      (x = .nils ∨ x = .sl zs.length [] .full) ∧ ys.length ≤ mx ∧ (∀ l c, h.os l = none → ys.length ≤ c →
          K (.hm l zs.length 0 ys.length c) loc (h.set l (some (.arr zs.length (ys ++ List.replicate (c - ys.length) zs))))) ∨
      ∃ l n c xs, x = .hm l zs.length 0 n c ∧ h.os l = some (.arr zs.length xs) ∧ n ≤ c ∧ c = xs.length ∧ n + ys.length ≤ mx ∧
        (n + ys.length ≤ c → K (.hm l zs.length 0 (n + ys.length) c) loc (h.set l (some (.arr zs.length (xs.take n ++ ys ++ xs.drop (n + ys.length)))))) ∧
        (c < n + ys.length → ∀ l' c', h.os l' = none → n + ys.length ≤ c' →
          K (.hm l' zs.length 0 (n + ys.length) c') loc ((h.set l none).set l' (some (.arr zs.length (xs.take n ++ ys ++ List.replicate (c' - (n + ys.length)) zs))))))
  | .cpy s, [.hm l s' off len _, y] => s' = s ∧ ∃ xs, h.os l = some (.arr s xs) ∧ off + len ≤ xs.length ∧
      ∃ ys, ((y = .nils ∧ ys = []) ∨ (∃ tg, y = .sl s ys tg) ∨ (∃ l2 off2 len2 c2 xs2, y = .hm l2 s off2 len2 c2 ∧ h.os l2 = some (.arr s xs2) ∧ off2 + len2 ≤ xs2.length ∧ ys = (xs2.drop off2).take len2)) ∧
        K (.int .i64 (min ys.length len : Nat)) loc (h.set l (some (.arr s (xs.take off ++ ys.take len ++ xs.drop (off + min ys.length len)))))
  | .clr zs, [.hm l s off len _] => s = zs.length ∧ ∃ xs, h.os l = some (.arr s xs) ∧ off + len ≤ xs.length ∧
      K (.tup []) loc (h.set l (some (.arr s (xs.take off ++ List.replicate len zs ++ xs.drop (off + len)))))
  | .clr _, [.nils] => K (.tup []) loc h
  | .clr _, [.sl _ [] _] => K (.tup []) loc h
  | .app s mx, [x, y] =>
    ∃ xs tg ys, ((x = .nils ∧ xs = [] ∧ tg = .full) ∨ x = .sl s xs tg) ∧ ((y = .nils ∧ ys = []) ∨ ∃ tg', y = .sl s ys tg') ∧
      (ys = [] → K x loc h) ∧
      (ys ≠ [] → xs.length + ys.length ≤ mx ∧ tg ≠ .no ∧ (∀ t, tg = .tok t → t ∈ h.al) ∧
        ∀ t, t ∉ h.al → K (.sl s (xs ++ ys) (.tok t)) loc { h with al := t :: tg.spend h.al })
  | .upl ag ks, [.lmap d, key, v] => ∃ es, loc d = some (.map ag ks es) ∧ key.isAgg = ag ∧ key.cells.map AV.kindNo = ks ∧ v.plain = true ∧
      K (.tup []) (loc.set d (some (.map ag ks (setE es key.cells v)))) h
  | .uph ag ks, [.hmap l, key, v] => ∃ es, h.os l = some (.map ag ks es) ∧ key.isAgg = ag ∧ key.cells.map AV.kindNo = ks ∧ v.plain = true ∧
      K (.tup []) loc (h.set l (some (.map ag ks (setE es key.cells v))))
  | .call f, vs => vs.all AV.plain = true ∧ C f vs h fun v h' => v.plain = true ∧ K v loc h'
  | .callp f, vs => vs.all AV.plain = true ∧ C f vs h fun v h' => v.plain = true ∧ h' = h ∧ K v loc h
  | .callv, .fn f first cap :: vs => vs.all AV.plain = true ∧ C f (first ++ vs ++ cap) h fun v h' => v.plain = true ∧ K v loc h'
  | _, _ => False

/-- Is it an instruction that only answers (and may lay a local object)? -/
def AK.passive : AK → Bool
  | .newh _ | .boxh | .mkh .. | .mmh .. | .st _ | .sth _ | .app .. | .appm .. | .cpy _ | .clr _ | .upl .. | .uph .. | .call _ | .callp _ | .callv | .dead => false
  | _ => true

def sem (C : Con) (loc : Loc) (h : AHeap) (K : AV → Loc → AHeap → Prop) (k : AK) (vs : List AV) : Prop :=
  if k.passive then ∃ v loc', pval loc h k vs = some (v, loc') ∧ K v loc' h else act C loc h K k vs

def ASt.args (s : ASt) (k : AK) (xs : List Opd) : Option (List AV) :=
  match k, xs with
  | .pick, [c, a, b] => match s.ev c with
    | some (.bool t) => (if t then s.ev a else s.ev b).map fun v => [v]
    | _ => none
  | .pick, _ => none
  | _, xs => s.evs xs

/-- A load, by its address, as the state says it. -/
def ASt.ldA (s : ASt) (x : Opd × Nat × Bool) : Option AV := (s.ev x.1).bind (ldhV s.loc s.h x.2.1 x.2.2)

def aexec (C : Con) (i : AIns) (s : ASt) (K : ASt → Prop) : Prop :=
  ∃ vs, s.args i.k i.args = some vs ∧ sem C s.loc s.h (fun v loc h => (∀ x ∈ i.kl, ASt.ldA ⟨s.env.put i.dst (some v), loc, h⟩ x = s.ldA x) ∧ K ⟨s.env.put i.dst (some v), loc, h⟩) i.k vs

/-- A guard: a truth value; or what has been skipped itself, and then it is not what is wanted. -/
def gvOk (e : Option AV) (w b : Bool) : Prop := e = some (.bool b) ∨ (e = some (.tup []) ∧ b ≠ w)
theorem gvOk.eq {e : Option AV} {w b : Bool} (h : gvOk e w b) (hb : b = w) : e = some (.bool w) := by
  rcases h with h | ⟨_, h⟩
  · rw [h, hb]
  · exact absurd hb h

def ains (C : Con) (i : AIns) (s : ASt) (K : ASt → Prop) : Prop :=
  match i.g with
  | none => aexec C i s K
  | some (t, want) => ∃ b, gvOk (s.env t) want b ∧ (b = want → aexec C i s K) ∧ (b ≠ want → K ⟨s.env.put i.dst (some (.tup [])), s.loc, s.h⟩)

def aops (C : Con) : List AIns → ASt → (ASt → Prop) → Prop
  | [], s, K => K s
  | i :: r, s, K => ains C i s fun s' => aops C r s' K

/-- Behind a region: these slots alone, and these local objects no more. -/
def Env.restr (e : Env) : List Nat → Env
  | [] => Env.nil
  | k :: ks => (Env.restr e ks).set k (e k)

/-- Without what names other local objects than these. -/
def Env.clear (e : Env) (ds : List Nat) : Env := fun k => match e k with
  | some v => if (v.names.all fun d => ds.contains d) then some v else none
  | none => none
def Loc.restr (l : Loc) : List Nat → Loc
  | [] => Loc.nil
  | d :: ds => (Loc.restr l ds).set d (l d)

def ASt.prune (s : ASt) (keep lkeep : List Nat) : ASt := ⟨(s.env.restr keep).clear lkeep, s.loc.restr lkeep, s.h⟩

def awp (C : Con) : ACode → ASt → (AExit → ASt → Prop) → Prop
  | .skip, s, Q => Q .normal s
  | .reg _ ins keep lkeep, s, Q => aops C ins s fun s' => Q .normal (s'.prune keep lkeep)
  | .seq a b, s, Q => awp C a s fun e s' => match e with
    | .normal => awp C b s' Q
    | e => Q e s'
  | .cond c a b, s, Q => ∃ t, s.ev c = some (.bool t) ∧ (t = true → awp C a s Q) ∧ (t = false → awp C b s Q)
  | .block id c, s, Q => awp C c s fun e s' => match e with
    | .exit j => if j = id then Q .normal s' else Q (.exit j) s'
    | e => Q e s'
  | .loop c, s, Q => ∃ I : Nat → ASt → Prop, (∃ d, I d s) ∧ ∀ d s', I d s' → awp C c s' fun e s'' => match e with
    | .normal => ∃ d', d' < d ∧ I d' s''
    | e => Q e s''
  | .exit id, s, Q => Q (.exit id) s
  | .ret, s, Q => Q .ret s
  | .frz t, s, Q => match s.env t with
    | some (.lm d sz off len) => ∃ xs, s.loc d = some (.arr sz xs) ∧ off + len ≤ xs.length ∧ Q .normal ⟨s.env.set t (some (.sl sz ((xs.drop off).take len) .no)), s.loc.set d (some .dead), s.h⟩
    | some (.hm l sz off len _) => ∃ xs, s.h.os l = some (.arr sz xs) ∧ off + len ≤ xs.length ∧ Q .normal ⟨s.env.set t (some (.sl sz ((xs.drop off).take len) .no)), s.loc, s.h.set l none⟩
    | _ => Q .normal s
  | .frzo d i j, s, Q => (∃ s0 xs e, s.loc d = some (.arr s0 xs) ∧ xs[i]? = some e ∧ ((∃ l sz off len c zs, e[j]? = some (.hm l sz off len c) ∧ s.h.os l = some (.arr sz zs) ∧ off + len ≤ zs.length ∧
      Q .normal ⟨s.env, s.loc.set d (some (.arr s0 (xs.set i (e.set j (.sl sz ((zs.drop off).take len) .no))))), s.h.set l none⟩) ∨ Q .normal s))

/-- A result: a slot, or a local object of n cells. -/
inductive ARes where
  | tmp (t : Nat)
  | cell (t n : Nat) (agg heap : Bool)
  deriving Inhabited

structure AFn where
  np : Nat
  nt : Nat
  res : List ARes
  code : ACode
  deriving Inhabited

def ASt.res (s : ASt) : ARes → Option AV
  | .tmp t => s.env t
  | .cell t n a hp => match s.env t with
    | some p => if hp then ldhV s.loc s.h n a p else ldV s.loc n a p
    | none => none

def ASt.ress (s : ASt) : List ARes → Option (List AV)
  | [] => some []
  | r :: rs => match s.res r, s.ress rs with
    | some v, some vs => some (v :: vs)
    | _, _ => none

def resV : List AV → AV
  | [v] => v
  | vs => .tup vs

def entryEnv : Nat → List AV → Env
  | _, [] => Env.nil
  | k, v :: vs => (entryEnv (k + 1) vs).set k (some v)

/-- A function's body meets a contract. -/
def AFn.meets (C : Con) (F : AFn) (args : List AV) (h : AHeap) (R : AV → AHeap → Prop) : Prop :=
  awp C F.code ⟨entryEnv 0 args, Loc.nil, h⟩ fun e s => match e with
    | .exit _ => False
    | _ => ∃ vs h', s.ress F.res = some vs ∧ vs.all AV.plain = true ∧ h'.le s.h ∧ R (resV vs) h'
end Abs

/- Abs2: what abstract values and states have to do with the model's. -/
namespace Abs
open Go

structure TokI where
  b : Nat
  e : Nat
  cap : Nat
  s : Nat

/-- The ghost: cells that never change again; where the objects lie; what the tokens stand for; from nx on no name has been given. -/
structure Mem where
  imm : Nat → Nat → Option Value
  hb : Nat → Option (Nat × Nat)
  tk : Nat → Option TokI
  nx : Nat

structure Mem.le (m m' : Mem) : Prop where
  imm : ∀ b o v, m.imm b o = some v → m'.imm b o = some v
  hb : ∀ l x, m.hb l = some x → m'.hb l = some x
  tk : ∀ t x, m.tk t = some x → m'.tk t = some x

theorem Mem.le.refl (m : Mem) : m.le m := ⟨fun _ _ _ h => h, fun _ _ h => h, fun _ _ h => h⟩
theorem Mem.le.trans {a b c : Mem} (h : a.le b) (k : b.le c) : a.le c :=
  ⟨fun x y v e => k.imm x y v (h.imm x y v e), fun l x e => k.hb l x (h.hb l x e), fun l x e => k.tk l x (h.tk l x e)⟩

def TagOk (m : Mem) (t : Tag) (b o n cap s : Nat) : Prop :=
  match t with
  | .no => True
  | .full => cap = n
  | .tok t => m.tk t = some ⟨b, n * s, cap, s⟩ ∧ o = 0

inductive VRel (m : Mem) : AV → Value → Prop
  | bool (b : Bool) : VRel m (.bool b) (.bool b)
  | int (k : IntKind) (n : Int) : VRel m (.int k n) (.int k n)
  | str (s : ByteArray) : VRel m (.str s) (.string s)
  | nilp : VRel m .nilp (.pointer none)
  | hp {l b s : Nat} (i o : Nat) (h : m.hb l = some (b, s)) : VRel m (.hp l i o) (.pointer (some ⟨b, i * s + o, none⟩))
  | rp {cs : List AV} {b o : Nat} (f : Nat → Value) (h : ∀ (j : Nat) (c : AV), cs[j]? = some c → m.imm b (o + j) = some (f j) ∧ c.one = true)
      (hv : ∀ (j : Nat) (c : AV), cs[j]? = some c → VRel m c (f j)) : VRel m (.rp cs) (.pointer (some ⟨b, o, none⟩))
  | nils : VRel m .nils (.slice none 0 0)
  | sl {s : Nat} {xs : List (List AV)} {t : Tag} {b o cap : Nat} (f : Nat → Value) (hs : ∀ e ∈ xs, e.length = s) (hc : xs.length ≤ cap)
      (h : ∀ (i : Nat) (e : List AV) (j : Nat) (c : AV), xs[i]? = some e → e[j]? = some c → m.imm b (o + (i * s + j)) = some (f (i * s + j)) ∧ c.one = true)
      (hv : ∀ (i : Nat) (e : List AV) (j : Nat) (c : AV), xs[i]? = some e → e[j]? = some c → VRel m c (f (i * s + j)))
      (ht : TagOk m t b o xs.length cap s) : VRel m (.sl s xs t) (.slice (some ⟨b, o, none⟩) xs.length cap)
  | sl0 {s : Nat} (a : Addr) {t : Tag} (ht : t = .full ∨ t = .no) : VRel m (.sl s [] t) (.slice (some a) 0 0)
  | hm {l b s : Nat} (off len cap : Nat) (h : m.hb l = some (b, s)) (hc : len ≤ cap) : VRel m (.hm l s off len cap) (.slice (some ⟨b, off * s, none⟩) len cap)
  | nilm : VRel m .nilm (.map none)
  | hmap {l b s : Nat} (h : m.hb l = some (b, s)) : VRel m (.hmap l) (.map (some b))
  | fn {f : Nat} {first cap : List AV} {fa ca : Array Value} (h1 : first.length = fa.size) (h2 : cap.length = ca.size)
      (h3 : ∀ (i : Nat) (c : AV) (cv : Value), first[i]? = some c → fa[i]? = some cv → VRel m c cv) (h4 : ∀ (i : Nat) (c : AV) (cv : Value), cap[i]? = some c → ca[i]? = some cv → VRel m c cv) :
      VRel m (.fn f first cap) (.func (.func f) fa ca)
  | nilf : VRel m .nilf .nilFunc
  | ifc {t : Nat} {v : AV} {cv : Value} (h : VRel m v cv) : VRel m (.ifc t v) (.iface t cv)
  | nili : VRel m .nili .nilIface
  | agg {cs : List AV} {ca : Array Value} (h : cs.length = ca.size) (h1 : ∀ c ∈ cs, c.one = true)
      (h2 : ∀ (i : Nat) (c : AV) (cv : Value), cs[i]? = some c → ca[i]? = some cv → VRel m c cv) : VRel m (.agg cs) (.agg ca)
  | tup {cs : List AV} {ca : Array Value} (h : cs.length = ca.size)
      (h2 : ∀ (i : Nat) (c : AV) (cv : Value), cs[i]? = some c → ca[i]? = some cv → VRel m c cv) : VRel m (.tup cs) (.tuple ca)

def VRels (m : Mem) (cs : List AV) (ca : Array Value) : Prop :=
  cs.length = ca.size ∧ ∀ (i : Nat) (c : AV) (cv : Value), cs[i]? = some c → ca[i]? = some cv → VRel m c cv

theorem TagOk.mono {m m' : Mem} (h : m.le m') {t : Tag} {b o n cap s : Nat} (k : TagOk m t b o n cap s) : TagOk m' t b o n cap s := by
  cases t with
  | no => trivial
  | full => exact k
  | tok t => exact ⟨h.tk _ _ k.1, k.2⟩

theorem VRel.mono {m m' : Mem} (h : m.le m') {v : AV} {cv : Value} (k : VRel m v cv) : VRel m' v cv := by
  induction k with
  | bool b => exact .bool b
  | int k n => exact .int k n
  | str s => exact .str s
  | nilp => exact .nilp
  | hp i o hl => exact .hp i o (h.hb _ _ hl)
  | rp f hh _ ih => exact .rp f (fun j c hc => ⟨h.imm _ _ _ (hh j c hc).1, (hh j c hc).2⟩) ih
  | nils => exact .nils
  | sl f hs hc hh _ ht ih => exact .sl f hs hc (fun i e j c h1 h2 => ⟨h.imm _ _ _ (hh i e j c h1 h2).1, (hh i e j c h1 h2).2⟩) ih (ht.mono h)
  | sl0 a ht => exact .sl0 a ht
  | hm off len cap hl hc => exact .hm off len cap (h.hb _ _ hl) hc
  | nilm => exact .nilm
  | hmap hl => exact .hmap (h.hb _ _ hl)
  | fn h1 h2 _ _ ih1 ih2 => exact .fn h1 h2 ih1 ih2
  | nilf => exact .nilf
  | ifc _ ih => exact .ifc ih
  | nili => exact .nili
  | agg h1 h2 _ ih => exact .agg h1 h2 ih
  | tup h1 _ ih => exact .tup h1 ih

theorem VRels.mono {m m' : Mem} (h : m.le m') {cs : List AV} {ca : Array Value} (k : VRels m cs ca) : VRels m' cs ca :=
  ⟨k.1, fun i c cv h1 h2 => (k.2 i c cv h1 h2).mono h⟩

theorem VRels.nil (m : Mem) : VRels m [] #[] := ⟨rfl, fun i c cv h => by simp at h⟩

theorem VRel.plain {m : Mem} {v : AV} {cv : Value} (h : VRel m v cv) : v.plain = true := by cases h <;> rfl

/-- Of one cell: so is the model's. -/
theorem VRel.oneCell {m : Mem} {v : AV} {cv : Value} (h : VRel m v cv) (h1 : v.one = true) : cv.oneCell' = true := by
  cases h <;> first | rfl | simp [AV.one] at h1

theorem VRel.cells {m : Mem} {v : AV} {cv : Value} (h : VRel m v cv) : VRels m v.cells cv.cells := by
  cases h <;> first
    | (rename_i h1 h2 h3; exact ⟨h1, h3⟩)
    | (refine ⟨rfl, fun i c cv h1 h2 => ?_⟩
       cases i with
       | zero => simp [AV.cells, Value.cells] at h1 h2; subst h1; subst h2; (first | exact .bool _ | exact .int _ _ | exact .str _ | exact .nilp | exact .nils | exact .nilm | exact .nilf | exact .nili | (constructor <;> assumption))
       | succ i => simp [AV.cells] at h1)

theorem VRel.cellsOne {m : Mem} {v : AV} {cv : Value} (h : VRel m v cv) (hf : v.fit = true) : ∀ c ∈ v.cells, c.one = true := by
  cases h <;> first
    | (rename_i h1 h2 h3; exact h2)
    | (intro c hc; simp only [AV.cells, List.mem_singleton] at hc; subst hc; exact hf)
end Abs

/- Abs3: the world's relation, and how it outlives new blocks and stores. -/
namespace Abs
open Go

inductive Own where
  | obj (l : Nat)
  | loc (d : Nat)
  | tok (t : Nat)
  deriving DecidableEq

def cellH (H : Array Obj) (b o : Nat) : Option Value :=
  match H[b]? with
  | some (.cells c _ _) => c[o]?
  | _ => none

theorem cell_eq (w : World) (b o : Nat) : w.cell? ⟨b, o, none⟩ = cellH w.heap b o := by
  unfold World.cell? cellH
  cases w.heap[b]? with
  | none => rfl
  | some x => cases x <;> simp

def keyV (ag : Bool) (k : List AV) : Option AV := if ag then some (.agg k) else k.head?

/-- A block's cells read as these elements of s cells each. -/
structure Rows (m : Mem) (s : Nat) (xs : List (List AV)) (c : Array Value) : Prop where
  len : ∀ e ∈ xs, e.length = s
  size : c.size = xs.length * s
  cell : ∀ (i : Nat) (e : List AV) (j : Nat) (x : AV), xs[i]? = some e → e[j]? = some x → x.one = true ∧ ∃ cv, c[i * s + j]? = some cv ∧ VRel m x cv

theorem Rows.mono {m m' : Mem} (h : m.le m') {s : Nat} {xs : List (List AV)} {c : Array Value} (k : Rows m s xs c) : Rows m' s xs c :=
  ⟨k.len, k.size, fun i e j x a b => let ⟨h6, cv, h7, h8⟩ := k.cell i e j x a b; ⟨h6, cv, h7, h8.mono h⟩⟩

def ORel (m : Mem) (ob : Option Obj) (s : Nat) : AObj → Prop
  | .arr s' xs => s' = s ∧ ∃ c ty, ob = some (.cells c ty (0, 0)) ∧ Rows m s xs c
  | .map ag ks es => ∃ ents clock, ob = some (.map ents clock) ∧ es.length = ents.size ∧
      ∀ (i : Nat) (k : List AV) (v : AV) (en : MapEntry), es[i]? = some (k, v) → ents[i]? = some en →
        k.map AV.kindNo = ks ∧ (∃ kv, keyV ag k = some kv ∧ VRel m kv en.key) ∧ VRel m v en.val
  | .dead => True

theorem ORel.mono {m m' : Mem} (h : m.le m') {ob : Option Obj} {s : Nat} {o : AObj} (k : ORel m ob s o) : ORel m' ob s o := by
  cases o with
  | arr s' xs =>
    obtain ⟨h1, c, ty, h3, h4⟩ := k
    exact ⟨h1, c, ty, h3, h4.mono h⟩
  | map ag ks es =>
    obtain ⟨ents, clock, h1, h2, h3⟩ := k
    refine ⟨ents, clock, h1, h2, fun i k v en a b => ?_⟩
    obtain ⟨h4, ⟨kv, h5, h6⟩, h7⟩ := h3 i k v en a b
    exact ⟨h4, ⟨kv, h5, h6.mono h⟩, h7.mono h⟩
  | dead => trivial

structure WRel (m : Mem) (own : Nat → Option Own) (h : AHeap) (H : Array Obj) : Prop where
  imm : ∀ b o v, m.imm b o = some v → cellH H b o = some v
  immObj : ∀ b o l, own b = some (.obj l) → m.imm b o = none
  immLoc : ∀ b o d, own b = some (.loc d) → m.imm b o = none
  immTok : ∀ b o t i, own b = some (.tok t) → m.tk t = some i → i.e ≤ o → m.imm b o = none
  lt : ∀ b x, own b = some x → b < H.size
  obj : ∀ l o, h.os l = some o → ∃ b s, m.hb l = some (b, s) ∧ own b = some (.obj l) ∧ ORel m H[b]? s o
  tok : ∀ t, t ∈ h.al → ∃ i, m.tk t = some i ∧ own i.b = some (.tok t) ∧ ∃ c ty, H[i.b]? = some (.cells c ty (0, 0)) ∧ i.cap * i.s ≤ c.size ∧ i.e ≤ i.cap * i.s
  nd : h.al.Nodup
  nx : ∀ l, m.nx ≤ l → m.hb l = none ∧ m.tk l = none
  ownTok : ∀ b t, own b = some (.tok t) → t < m.nx

/-- The blocks of what the heap holds. -/
def Foot (m : Mem) (h : AHeap) (b : Nat) : Prop :=
  (∃ l o s, h.os l = some o ∧ m.hb l = some (b, s)) ∨ ∃ t i, t ∈ h.al ∧ m.tk t = some i ∧ i.b = b

/-- What a call may have done. -/
structure Ext (m0 : Mem) (own0 : Nat → Option Own) (h0 : AHeap) (H0 : Array Obj) (m : Mem) (own : Nat → Option Own) (h : AHeap) (H : Array Obj) : Prop where
  mem : m0.le m
  size : H0.size ≤ H.size
  keep : ∀ b, b < H0.size → ¬ Foot m0 h0 b → own b = own0 b ∧ H[b]? = H0[b]? ∧ ∀ o, m.imm b o = m0.imm b o
  foot : ∀ b, b < H0.size → Foot m h b → Foot m0 h0 b

theorem Ext.refl (m : Mem) (own : Nat → Option Own) (h : AHeap) (H : Array Obj) : Ext m own h H m own h H :=
  ⟨Mem.le.refl m, Nat.le_refl _, fun _ _ _ => ⟨rfl, rfl, fun _ => rfl⟩, fun _ _ h => h⟩

theorem Ext.trans {m0 m1 m2 : Mem} {o0 o1 o2 : Nat → Option Own} {h0 h1 h2 : AHeap} {H0 H1 H2 : Array Obj}
    (a : Ext m0 o0 h0 H0 m1 o1 h1 H1) (b : Ext m1 o1 h1 H1 m2 o2 h2 H2) : Ext m0 o0 h0 H0 m2 o2 h2 H2 := by
  refine ⟨a.mem.trans b.mem, Nat.le_trans a.size b.size, fun x hx hf => ?_, fun x hx hf => a.foot x hx (b.foot x (Nat.lt_of_lt_of_le hx a.size) hf)⟩
  obtain ⟨p1, p2, p3⟩ := a.keep x hx hf
  obtain ⟨q1, q2, q3⟩ := b.keep x (Nat.lt_of_lt_of_le hx a.size) (fun h => hf (a.foot x hx h))
  exact ⟨q1.trans p1, q2.trans p2, fun o => (q3 o).trans (p3 o)⟩

theorem Foot.own {m : Mem} {own : Nat → Option Own} {h : AHeap} {H : Array Obj} (w : WRel m own h H) {b : Nat} (hf : Foot m h b) :
    (∃ l, own b = some (.obj l)) ∨ ∃ t, own b = some (.tok t) := by
  rcases hf with ⟨l, o, s, h1, h2⟩ | ⟨t, i, h1, h2, rfl⟩
  · obtain ⟨b', s', h3, h4, _⟩ := w.obj l o h1
    rw [h2] at h3
    injection h3 with h3
    injection h3 with h3 _
    subst h3
    exact .inl ⟨l, h4⟩
  · obtain ⟨i', h3, h4, _⟩ := w.tok t h1
    rw [h2] at h3
    injection h3 with h3
    subst h3
    exact .inr ⟨t, h4⟩

section
variable {m : Mem} {own : Nat → Option Own} {h : AHeap} {H H' : Array Obj}

theorem cellH_lt {b o : Nat} {v : Value} (hc : cellH H b o = some v) : b < H.size := by
  unfold cellH at hc
  rcases Nat.lt_or_ge b H.size with hlt | hge
  · exact hlt
  · rw [Array.getElem?_eq_none hge] at hc; cases hc

theorem cellH_congr {b o : Nat} (hb : H'[b]? = H[b]?) : cellH H' b o = cellH H b o := by unfold cellH; rw [hb]

theorem WRel.immLt (w : WRel m own h H) {b o : Nat} {v : Value} (hi : m.imm b o = some v) : b < H.size := cellH_lt (w.imm b o v hi)

theorem WRel.immNone (w : WRel m own h H) {b : Nat} (hb : H.size ≤ b) (o : Nat) : m.imm b o = none := by
  cases hi : m.imm b o with
  | none => rfl
  | some v => exact absurd (w.immLt hi) (by omega)

theorem WRel.ownNone (w : WRel m own h H) {b : Nat} (hb : H.size ≤ b) : own b = none := by
  cases hi : own b with
  | none => rfl
  | some v => exact absurd (w.lt b v hi) (by omega)

/-- Only the blocks that stood count: new blocks may come. -/
theorem WRel.more (w : WRel m own h H) (hs : H.size ≤ H'.size) (hk : ∀ b, b < H.size → H'[b]? = H[b]?) : WRel m own h H' := by
  refine ⟨fun b o v hi => ?_, w.immObj, w.immLoc, w.immTok, fun b x hb => Nat.lt_of_lt_of_le (w.lt b x hb) hs, fun l o ho => ?_, fun t ht => ?_, w.nd, w.nx, w.ownTok⟩
  · rw [cellH_congr (hk b (w.immLt hi))]; exact w.imm b o v hi
  · obtain ⟨b, s, h1, h2, h3⟩ := w.obj l o ho
    exact ⟨b, s, h1, h2, by rw [hk b (w.lt _ _ h2)]; exact h3⟩
  · obtain ⟨i, h1, h2, c, ty, h3, h4⟩ := w.tok t ht
    exact ⟨i, h1, h2, c, ty, by rw [hk i.b (w.lt _ _ h2)]; exact h3, h4⟩

theorem Ext.more (hs : H.size ≤ H'.size) (hk : ∀ b, b < H.size → H'[b]? = H[b]?) : Ext m own h H m own h H' :=
  ⟨Mem.le.refl m, hs, fun b hb _ => ⟨rfl, hk b hb, fun _ => rfl⟩, fun _ _ hf => hf⟩

theorem push_old (H : Array Obj) (o : Obj) (b : Nat) (hb : b < H.size) : (H.push o)[b]? = H[b]? := by
  rw [Array.getElem?_push_lt hb, Array.getElem?_eq_getElem hb]

theorem push_new (H : Array Obj) (o : Obj) : (H.push o)[H.size]? = some o := by simp

/-- A new block whose first e cells never change again. -/
def Mem.addImm (m : Mem) (b0 : Nat) (c : Array Value) (e : Nat) : Mem :=
  { m with imm := fun b o => if b = b0 then (if o < e then c[o]? else none) else m.imm b o }

theorem WRel.addImm_le (w : WRel m own h H) (c : Array Value) (e : Nat) : m.le (m.addImm H.size c e) := by
  refine ⟨fun b o v hi => ?_, fun _ _ h => h, fun _ _ h => h⟩
  have := w.immLt hi
  simp only [Mem.addImm]
  rw [if_neg (by omega)]
  exact hi

theorem WRel.immBlock (w : WRel m own h H) (c : Array Value) (ty : TypeId) (e : Nat) :
    WRel (m.addImm H.size c e) own h (H.push (.cells c ty)) ∧ Ext m own h H (m.addImm H.size c e) own h (H.push (.cells c ty)) := by
  have hle := w.addImm_le c e
  have hk : ∀ b, b < H.size → (H.push (.cells c ty))[b]? = H[b]? := push_old H _
  have hi : ∀ b o, b ≠ H.size → (m.addImm H.size c e).imm b o = m.imm b o := fun b o hb => by simp only [Mem.addImm]; rw [if_neg hb]
  refine ⟨⟨fun b o v hv => ?_, fun b o l hl => ?_, fun b o d hd => ?_, fun b o t i ht hi' he => ?_, fun b x hx => by have := w.lt b x hx; simp; omega, fun l o ho => ?_, fun t ht => ?_, w.nd, w.nx, w.ownTok⟩,
    hle, by simp, fun b hb _ => ⟨rfl, hk b hb, fun o => hi b o (by omega)⟩, fun b _ hf => hf⟩
  · by_cases hb : b = H.size
    · subst hb
      simp only [Mem.addImm, if_true] at hv
      unfold cellH
      rw [push_new]
      split at hv
      · exact hv
      · cases hv
    · rw [hi b o hb] at hv
      rw [cellH_congr (hk b (w.immLt hv))]
      exact w.imm b o v hv
  · rw [hi b o (by have := w.lt _ _ hl; omega)]; exact w.immObj b o l hl
  · rw [hi b o (by have := w.lt _ _ hd; omega)]; exact w.immLoc b o d hd
  · rw [hi b o (by have := w.lt _ _ ht; omega)]; exact w.immTok b o t i ht hi' he
  · obtain ⟨b, s, h1, h2, h3⟩ := w.obj l o ho
    exact ⟨b, s, h1, h2, by rw [hk b (w.lt _ _ h2)]; exact h3.mono hle⟩
  · obtain ⟨i, h1, h2, c', ty', h3, h4⟩ := w.tok t ht
    exact ⟨i, h1, h2, c', ty', by rw [hk i.b (w.lt _ _ h2)]; exact h3, h4⟩

/-- A new object on the heap, in a new block. -/
def Mem.addObj (m : Mem) (l b s : Nat) : Mem := { m with hb := fun j => if j = l then some (b, s) else m.hb j, nx := max m.nx (l + 1) }
def ownSet (own : Nat → Option Own) (b : Nat) (x : Own) : Nat → Option Own := fun j => if j = b then some x else own j

theorem WRel.fresh (w : WRel m own h H) : m.hb m.nx = none ∧ m.tk m.nx = none ∧ h.os m.nx = none ∧ m.nx ∉ h.al := by
  obtain ⟨h1, h2⟩ := w.nx m.nx (Nat.le_refl _)
  refine ⟨h1, h2, ?_, fun ht => ?_⟩
  · cases ho : h.os m.nx with
    | none => rfl
    | some o =>
      obtain ⟨b, s, h3, _⟩ := w.obj _ _ ho
      rw [h1] at h3; cases h3
  · obtain ⟨i, h3, _⟩ := w.tok _ ht
    rw [h2] at h3; cases h3

theorem WRel.addObj_le (w : WRel m own h H) (b s : Nat) : m.le (m.addObj m.nx b s) := by
  refine ⟨fun _ _ _ h => h, fun l x hx => ?_, fun _ _ h => h⟩
  simp only [Mem.addObj]
  rw [if_neg]
  · exact hx
  · rintro rfl
    rw [w.fresh.1] at hx; cases hx

theorem WRel.newObj (w : WRel m own h H) (ob : Obj) (s : Nat) (o : AObj) (ho : ORel m (some ob) s o) :
    WRel (m.addObj m.nx H.size s) (ownSet own H.size (.obj m.nx)) (h.set m.nx (some o)) (H.push ob) ∧
    Ext m own h H (m.addObj m.nx H.size s) (ownSet own H.size (.obj m.nx)) (h.set m.nx (some o)) (H.push ob) := by
  have hle := w.addObj_le H.size s
  obtain ⟨f1, f2, f3, f4⟩ := w.fresh
  have hk : ∀ b, b < H.size → (H.push ob)[b]? = H[b]? := push_old H _
  have ho' : ∀ b, b ≠ H.size → ownSet own H.size (.obj m.nx) b = own b := fun b hb => by simp [ownSet, hb]
  have hnew : ownSet own H.size (.obj m.nx) H.size = some (.obj m.nx) := by simp [ownSet]
  have hh : ∀ l b s', (m.addObj m.nx H.size s).hb l = some (b, s') → l ≠ m.nx → m.hb l = some (b, s') := fun l b s' e hl => by
    simp only [Mem.addObj] at e; rw [if_neg hl] at e; exact e
  refine ⟨⟨fun b o v hv => ?_, fun b o l hl => ?_, fun b o d hd => ?_, fun b o t i ht hi' he => ?_, fun b x hx => ?_, fun l o' hlo => ?_, fun t ht => ?_, w.nd, fun l hl => ?_, fun b t ht => ?_⟩,
    hle, by simp, fun b hb _ => ⟨ho' b (by omega), hk b hb, fun o => rfl⟩, fun b hb hf => ?_⟩
  · have hv' : m.imm b o = some v := hv
    rw [cellH_congr (hk b (w.immLt hv'))]; exact w.imm b o v hv'
  · by_cases hb : b = H.size
    · subst hb; exact w.immNone (Nat.le_refl _) o
    · rw [ho' b hb] at hl; exact w.immObj b o l hl
  · by_cases hb : b = H.size
    · subst hb; exact w.immNone (Nat.le_refl _) o
    · rw [ho' b hb] at hd; exact w.immLoc b o d hd
  · by_cases hb : b = H.size
    · subst hb; exact w.immNone (Nat.le_refl _) o
    · rw [ho' b hb] at ht; exact w.immTok b o t i ht hi' he
  · by_cases hb : b = H.size
    · subst hb; simp
    · rw [ho' b hb] at hx; have := w.lt b x hx; simp; omega
  · simp only [AHeap.set] at hlo
    split at hlo
    · rename_i e
      subst e
      injection hlo with hlo
      subst hlo
      exact ⟨H.size, s, by simp [Mem.addObj], hnew, by rw [push_new]; exact ho.mono hle⟩
    · obtain ⟨b, s', h1, h2, h3⟩ := w.obj l o' hlo
      have hlt := w.lt _ _ h2
      exact ⟨b, s', hle.hb _ _ h1, by rw [ho' b (by omega)]; exact h2, by rw [hk b hlt]; exact h3.mono hle⟩
  · obtain ⟨i, h1, h2, c', ty', h3, h4⟩ := w.tok t ht
    have hlt := w.lt _ _ h2
    exact ⟨i, h1, by rw [ho' i.b (by omega)]; exact h2, c', ty', by rw [hk i.b hlt]; exact h3, h4⟩
  · simp only [Mem.addObj] at hl ⊢
    rw [if_neg (by omega)]
    exact w.nx l (by omega)
  · by_cases hb : b = H.size
    · subst hb; rw [hnew] at ht; cases ht
    · rw [ho' b hb] at ht
      have := w.ownTok b t ht
      simp only [Mem.addObj]
      omega
  · rcases hf with ⟨l, o', s', h1, h2⟩ | ⟨t, i, h1, h2, h3⟩
    · simp only [AHeap.set] at h1
      simp only [Mem.addObj] at h2
      by_cases e : l = m.nx
      · rw [if_pos e] at h2
        injection h2 with h2; injection h2 with h2 _
        omega
      · rw [if_neg e] at h1 h2
        exact .inl ⟨l, o', s', h1, h2⟩
    · exact .inr ⟨t, i, h1, h2, h3⟩
end
end Abs

/- Abs4: the world's relation over local objects, stores, tokens; fewer objects. -/
namespace Abs
open Go
section
variable {m : Mem} {own : Nat → Option Own} {h : AHeap} {H H' : Array Obj}

/-- A new block that a local object owns. -/
theorem WRel.newLoc (w : WRel m own h H) (ob : Obj) (d : Nat) :
    WRel m (ownSet own H.size (.loc d)) h (H.push ob) ∧ Ext m own h H m (ownSet own H.size (.loc d)) h (H.push ob) := by
  have hk : ∀ b, b < H.size → (H.push ob)[b]? = H[b]? := push_old H _
  have ho' : ∀ b, b ≠ H.size → ownSet own H.size (.loc d) b = own b := fun b hb => by simp [ownSet, hb]
  have hn : ∀ b x, ownSet own H.size (.loc d) b = some x → (b = H.size ∧ x = .loc d) ∨ (b ≠ H.size ∧ own b = some x) := fun b x hx => by
    by_cases hb : b = H.size
    · subst hb; simp [ownSet] at hx; exact .inl ⟨rfl, hx.symm⟩
    · rw [ho' b hb] at hx; exact .inr ⟨hb, hx⟩
  refine ⟨⟨fun b o v hv => ?_, fun b o l hl => ?_, fun b o d' hd => ?_, fun b o t i ht hi' he => ?_, fun b x hx => ?_, fun l o' hlo => ?_, fun t ht => ?_, w.nd, w.nx, fun b t ht => ?_⟩,
    Mem.le.refl m, by simp, fun b hb _ => ⟨ho' b (by omega), hk b hb, fun o => rfl⟩, fun b hb hf => hf⟩
  · rw [cellH_congr (hk b (w.immLt hv))]; exact w.imm b o v hv
  · rcases hn b _ hl with ⟨_, e⟩ | ⟨_, e⟩
    · cases e
    · exact w.immObj b o l e
  · rcases hn b _ hd with ⟨rfl, _⟩ | ⟨_, e⟩
    · exact w.immNone (Nat.le_refl _) o
    · exact w.immLoc b o d' e
  · rcases hn b _ ht with ⟨_, e⟩ | ⟨_, e⟩
    · cases e
    · exact w.immTok b o t i e hi' he
  · rcases hn b _ hx with ⟨rfl, _⟩ | ⟨_, e⟩
    · simp
    · have := w.lt b x e; simp; omega
  · obtain ⟨b, s', h1, h2, h3⟩ := w.obj l o' hlo
    have hlt := w.lt _ _ h2
    exact ⟨b, s', h1, by rw [ho' b (by omega)]; exact h2, by rw [hk b hlt]; exact h3⟩
  · obtain ⟨i, h1, h2, c', ty', h3, h4⟩ := w.tok t ht
    have hlt := w.lt _ _ h2
    exact ⟨i, h1, by rw [ho' i.b (by omega)]; exact h2, c', ty', by rw [hk i.b hlt]; exact h3, h4⟩
  · rcases hn b _ ht with ⟨_, e⟩ | ⟨_, e⟩
    · cases e
    · exact w.ownTok b t e

/-- A local object's block has turned. -/
theorem WRel.setLoc (w : WRel m own h H) {b d : Nat} (hb : own b = some (.loc d)) (hs : H'.size = H.size) (hk : ∀ b', b' ≠ b → H'[b']? = H[b']?) : WRel m own h H' := by
  refine ⟨fun b' o v hv => ?_, w.immObj, w.immLoc, w.immTok, fun b' x hx => by rw [hs]; exact w.lt b' x hx, fun l o ho => ?_, fun t ht => ?_, w.nd, w.nx, w.ownTok⟩
  · have : b' ≠ b := by
      rintro rfl
      rw [w.immLoc b' o d hb] at hv; cases hv
    rw [cellH_congr (hk b' this)]; exact w.imm b' o v hv
  · obtain ⟨b', s, h1, h2, h3⟩ := w.obj l o ho
    have : b' ≠ b := by rintro rfl; rw [hb] at h2; cases h2
    exact ⟨b', s, h1, h2, by rw [hk b' this]; exact h3⟩
  · obtain ⟨i, h1, h2, h3⟩ := w.tok t ht
    have : i.b ≠ b := by rintro e; rw [e, hb] at h2; cases h2
    exact ⟨i, h1, h2, by rw [hk i.b this]; exact h3⟩

/-- An object of the heap has turned. -/
theorem WRel.setObj (w : WRel m own h H) {l b s : Nat} {o o' : AObj} (hl : h.os l = some o) (hb : m.hb l = some (b, s)) (hs : H'.size = H.size) (hk : ∀ b', b' ≠ b → H'[b']? = H[b']?)
    (ho : ORel m H'[b]? s o') : WRel m own (h.set l (some o')) H' ∧ Ext m own h H m own (h.set l (some o')) H' := by
  obtain ⟨b1, s1, e1, hob, _⟩ := w.obj l o hl
  rw [hb] at e1
  injection e1 with e1; injection e1 with e1 e2
  subst e1; subst e2
  refine ⟨⟨fun b' o v hv => ?_, w.immObj, w.immLoc, w.immTok, fun b' x hx => by rw [hs]; exact w.lt b' x hx, fun l' o'' hlo => ?_, fun t ht => ?_, w.nd, w.nx, w.ownTok⟩,
    Mem.le.refl m, Nat.le_of_eq hs.symm, fun b' hb' hf => ⟨rfl, hk b' ?_, fun o => rfl⟩, fun b' _ hf => ?_⟩
  · have : b' ≠ b := by
      rintro rfl
      rw [w.immObj b' o l hob] at hv; cases hv
    rw [cellH_congr (hk b' this)]; exact w.imm b' o v hv
  · simp only [AHeap.set] at hlo
    split at hlo
    · rename_i e
      subst e
      injection hlo with hlo
      subst hlo
      exact ⟨b, s, hb, hob, ho⟩
    · rename_i e
      obtain ⟨b', s', h1, h2, h3⟩ := w.obj l' o'' hlo
      have : b' ≠ b := by
        rintro rfl
        rw [hob] at h2
        injection h2 with h2; injection h2 with h2
        exact e h2.symm
      exact ⟨b', s', h1, h2, by rw [hk b' this]; exact h3⟩
  · obtain ⟨i, h1, h2, h3⟩ := w.tok t ht
    have : i.b ≠ b := by rintro e; rw [e, hob] at h2; cases h2
    exact ⟨i, h1, h2, by rw [hk i.b this]; exact h3⟩
  · rintro rfl
    exact hf (.inl ⟨l, o, s, hl, hb⟩)
  · rcases hf with ⟨l', o'', s', h1, h2⟩ | ⟨t, i, h1, h2, h3⟩
    · simp only [AHeap.set] at h1
      split at h1
      · rename_i e
        subst e
        exact .inl ⟨l', o, s', hl, h2⟩
      · exact .inl ⟨l', o'', s', h1, h2⟩
    · exact .inr ⟨t, i, h1, h2, h3⟩

/-- Fewer objects and tokens. -/
theorem WRel.drop (w : WRel m own h H) {h' : AHeap} (hle : h'.le h) (hnd : h'.al.Nodup) : WRel m own h' H :=
  ⟨w.imm, w.immObj, w.immLoc, w.immTok, w.lt, fun l o ho => w.obj l o (hle.1 l o ho), fun t ht => w.tok t (hle.2.subset ht), hnd, w.nx, w.ownTok⟩

theorem Foot.drop {h' : AHeap} (hle : h'.le h) {b : Nat} (hf : Foot m h' b) : Foot m h b := by
  rcases hf with ⟨l, o, s, h1, h2⟩ | ⟨t, i, h1, h2, h3⟩
  · exact .inl ⟨l, o, s, hle.1 l o h1, h2⟩
  · exact .inr ⟨t, i, hle.2.subset h1, h2, h3⟩

theorem Ext.drop {m0 : Mem} {o0 : Nat → Option Own} {h0 h' : AHeap} {H0 : Array Obj} (e : Ext m0 o0 h0 H0 m own h H) (hle : h'.le h) : Ext m0 o0 h0 H0 m own h' H :=
  ⟨e.mem, e.size, e.keep, fun b hb hf => e.foot b hb (hf.drop hle)⟩

/-- A new block, its first cells for ever, the rest a token's. -/
def Mem.addTok (m : Mem) (t : Nat) (i : TokI) : Mem := { m with tk := fun j => if j = t then some i else m.tk j, nx := max m.nx (t + 1) }

theorem WRel.newTok (w : WRel m own h H) (c : Array Value) (ty : TypeId) (i : TokI) (hib : i.b = H.size) (hc : i.cap * i.s ≤ c.size) (he : i.e ≤ i.cap * i.s) (al : List Nat) (hal : al.Sublist h.al) :
    WRel ((m.addImm H.size c i.e).addTok m.nx i) (ownSet own H.size (.tok m.nx)) { h with al := m.nx :: al } (H.push (.cells c ty)) ∧
    Ext m own h H ((m.addImm H.size c i.e).addTok m.nx i) (ownSet own H.size (.tok m.nx)) { h with al := m.nx :: al } (H.push (.cells c ty)) := by
  obtain ⟨f1, f2, f3, f4⟩ := w.fresh
  have hle : m.le ((m.addImm H.size c i.e).addTok m.nx i) := by
    have := w.addImm_le c i.e
    refine ⟨this.imm, this.hb, fun t x hx => ?_⟩
    simp only [Mem.addTok]
    rw [if_neg]
    · exact hx
    · rintro rfl; rw [f2] at hx; cases hx
  have hk : ∀ b, b < H.size → (H.push (.cells c ty))[b]? = H[b]? := push_old H _
  have hi : ∀ b o, b ≠ H.size → ((m.addImm H.size c i.e).addTok m.nx i).imm b o = m.imm b o := fun b o hb => by simp only [Mem.addTok, Mem.addImm]; rw [if_neg hb]
  have ho' : ∀ b, b ≠ H.size → ownSet own H.size (.tok m.nx) b = own b := fun b hb => by simp [ownSet, hb]
  have hn : ∀ b x, ownSet own H.size (.tok m.nx) b = some x → (b = H.size ∧ x = .tok m.nx) ∨ (b ≠ H.size ∧ own b = some x) := fun b x hx => by
    by_cases hb : b = H.size
    · subst hb; simp [ownSet] at hx; exact .inl ⟨rfl, hx.symm⟩
    · rw [ho' b hb] at hx; exact .inr ⟨hb, hx⟩
  have htk : ∀ t x, t ≠ m.nx → ((m.addImm H.size c i.e).addTok m.nx i).tk t = some x → m.tk t = some x := fun t x ht hx => by
    simp only [Mem.addTok] at hx; rw [if_neg ht] at hx; exact hx
  refine ⟨⟨fun b o v hv => ?_, fun b o l hl => ?_, fun b o d hd => ?_, fun b o t j ht hj he' => ?_, fun b x hx => ?_, fun l o ho => ?_, fun t ht => ?_, ?_, fun l hl => ?_, fun b t ht => ?_⟩,
    hle, by simp, fun b hb _ => ⟨ho' b (by omega), hk b hb, fun o => hi b o (by omega)⟩, fun b hb hf => ?_⟩
  · by_cases hb : b = H.size
    · subst hb
      simp only [Mem.addTok, Mem.addImm, if_true] at hv
      unfold cellH
      rw [push_new]
      split at hv
      · exact hv
      · cases hv
    · rw [hi b o hb] at hv
      rw [cellH_congr (hk b (w.immLt hv))]
      exact w.imm b o v hv
  · rcases hn b _ hl with ⟨_, e⟩ | ⟨hb, e⟩
    · cases e
    · rw [hi b o hb]; exact w.immObj b o l e
  · rcases hn b _ hd with ⟨_, e⟩ | ⟨hb, e⟩
    · cases e
    · rw [hi b o hb]; exact w.immLoc b o d e
  · rcases hn b _ ht with ⟨rfl, e⟩ | ⟨hb, e⟩
    · injection e with e
      subst e
      simp only [Mem.addTok, if_true] at hj
      injection hj with hj
      subst hj
      simp only [Mem.addTok, Mem.addImm, if_true]
      rw [if_neg (by omega)]
    · rw [hi b o hb]
      by_cases htn : t = m.nx
      · subst htn
        exact absurd (w.ownTok b _ e) (by omega)
      · exact w.immTok b o t j e (htk t j htn hj) he'
  · rcases hn b _ hx with ⟨rfl, _⟩ | ⟨_, e⟩
    · simp
    · have := w.lt b x e; simp; omega
  · obtain ⟨b, s, h1, h2, h3⟩ := w.obj l o ho
    have hlt := w.lt _ _ h2
    exact ⟨b, s, h1, by rw [ho' b (by omega)]; exact h2, by rw [hk b hlt]; exact h3.mono hle⟩
  · rcases List.mem_cons.1 ht with rfl | ht
    · exact ⟨i, by simp [Mem.addTok], by rw [hib]; simp [ownSet], c, ty, by rw [hib]; exact push_new H _, hc, he⟩
    · obtain ⟨j, h1, h2, c', ty', h3, h4⟩ := w.tok t (hal.subset ht)
      have hlt := w.lt _ _ h2
      exact ⟨j, hle.tk _ _ h1, by rw [ho' j.b (by omega)]; exact h2, c', ty', by rw [hk j.b hlt]; exact h3, h4⟩
  · exact List.nodup_cons.2 ⟨fun hm => f4 (hal.subset hm), w.nd.sublist hal⟩
  · simp only [Mem.addTok, Mem.addImm] at hl ⊢
    rw [if_neg (by omega)]
    exact w.nx l (by omega)
  · simp only [Mem.addTok, Mem.addImm]
    rcases hn b _ ht with ⟨_, e⟩ | ⟨_, e⟩
    · injection e with e; omega
    · have := w.ownTok b t e; omega
  · rcases hf with ⟨l, o', s', h1, h2⟩ | ⟨t, j, h1, h2, h3⟩
    · exact .inl ⟨l, o', s', h1, h2⟩
    · rcases List.mem_cons.1 h1 with rfl | h1
      · simp only [Mem.addTok, if_true] at h2
        injection h2 with h2
        subst h2
        omega
      · refine .inr ⟨t, j, hal.subset h1, ?_, h3⟩
        exact htk t j (fun e => f4 (e ▸ hal.subset h1)) h2

def Mem.moreImm (m : Mem) (b0 : Nat) (c : Array Value) (lo hi : Nat) : Mem :=
  { m with imm := fun b o => if b = b0 ∧ lo ≤ o ∧ o < hi then c[o]? else m.imm b o }

/-- A token is spent: so many cells more of its block never change again; what is left of its room is another token's. -/
theorem WRel.roomTok (w : WRel m own h H) {t : Nat} (ht : t ∈ h.al) {i : TokI} (hi : m.tk t = some i) (c c' : Array Value) (ty : TypeId) (k : Nat)
    (hc : H[i.b]? = some (.cells c ty (0, 0))) (hc' : H'[i.b]? = some (.cells c' ty (0, 0))) (hsz : c'.size = c.size) (hold : ∀ o, o < i.e → c'[o]? = c[o]?)
    (hs : H'.size = H.size) (hk : ∀ b', b' ≠ i.b → H'[b']? = H[b']?) (hek : i.e + k ≤ i.cap * i.s) :
    WRel ((m.moreImm i.b c' i.e (i.e + k)).addTok m.nx ⟨i.b, i.e + k, i.cap, i.s⟩) (ownSet own i.b (.tok m.nx)) { h with al := m.nx :: h.al.erase t } H' ∧
    Ext m own h H ((m.moreImm i.b c' i.e (i.e + k)).addTok m.nx ⟨i.b, i.e + k, i.cap, i.s⟩) (ownSet own i.b (.tok m.nx)) { h with al := m.nx :: h.al.erase t } H' := by
  obtain ⟨f1, f2, f3, f4⟩ := w.fresh
  obtain ⟨i2, e2, hown, c2, ty2, hc2, hcap, _⟩ := w.tok t ht
  rw [hi] at e2
  injection e2 with e2
  subst e2
  rw [hc] at hc2
  injection hc2 with hc2; injection hc2 with hc2 hty2 _
  subst hc2; subst hty2
  have hfoot : Foot m h i.b := .inr ⟨t, i, ht, hi, rfl⟩
  have hnone : ∀ o, i.e ≤ o → m.imm i.b o = none := fun o ho => w.immTok i.b o t i hown hi ho
  have hle : m.le ((m.moreImm i.b c' i.e (i.e + k)).addTok m.nx ⟨i.b, i.e + k, i.cap, i.s⟩) := by
    refine ⟨fun b o v hv => ?_, fun _ _ h => h, fun t x hx => ?_⟩
    · simp only [Mem.addTok, Mem.moreImm]
      rw [if_neg]
      · exact hv
      · rintro ⟨rfl, h1, _⟩
        rw [hnone o h1] at hv; cases hv
    · simp only [Mem.addTok]
      rw [if_neg]
      · exact hx
      · rintro rfl; rw [f2] at hx; cases hx
  have hne : ∀ b o, b ≠ i.b → ((m.moreImm i.b c' i.e (i.e + k)).addTok m.nx ⟨i.b, i.e + k, i.cap, i.s⟩).imm b o = m.imm b o := fun b o hb => by
    simp only [Mem.addTok, Mem.moreImm]; rw [if_neg (fun e => hb e.1)]
  have ho' : ∀ b, b ≠ i.b → ownSet own i.b (.tok m.nx) b = own b := fun b hb => by simp [ownSet, hb]
  have hn : ∀ b x, ownSet own i.b (.tok m.nx) b = some x → (b = i.b ∧ x = .tok m.nx) ∨ (b ≠ i.b ∧ own b = some x) := fun b x hx => by
    by_cases hb : b = i.b
    · subst hb; simp [ownSet] at hx; exact .inl ⟨rfl, hx.symm⟩
    · rw [ho' b hb] at hx; exact .inr ⟨hb, hx⟩
  have htk : ∀ u x, u ≠ m.nx → ((m.moreImm i.b c' i.e (i.e + k)).addTok m.nx ⟨i.b, i.e + k, i.cap, i.s⟩).tk u = some x → m.tk u = some x := fun u x hu hx => by
    simp only [Mem.addTok] at hx; rw [if_neg hu] at hx; exact hx
  have hlt : i.b < H.size := w.lt _ _ hown
  refine ⟨⟨fun b o v hv => ?_, fun b o l hl => ?_, fun b o d hd => ?_, fun b o u j hu hj he' => ?_, fun b x hx => ?_, fun l o ho => ?_, fun u hu => ?_, ?_, fun l hl => ?_, fun b u hu => ?_⟩,
    hle, Nat.le_of_eq hs.symm, fun b hb hf => ?_, fun b hb hf => ?_⟩
  · by_cases hb : b = i.b
    · subst hb
      simp only [Mem.addTok, Mem.moreImm] at hv
      unfold cellH
      rw [hc']
      split at hv
      · exact hv
      · have h1 := w.imm _ _ _ hv
        unfold cellH at h1
        rw [hc] at h1
        have h3 := hold o (by
          rcases Nat.lt_or_ge o i.e with h2 | h2
          · exact h2
          · rw [hnone o h2] at hv; cases hv)
        exact h3.trans h1
    · rw [hne b o hb] at hv
      rw [cellH_congr (hk b hb)]
      exact w.imm b o v hv
  · rcases hn b _ hl with ⟨_, e⟩ | ⟨hb, e⟩
    · cases e
    · rw [hne b o hb]; exact w.immObj b o l e
  · rcases hn b _ hd with ⟨_, e⟩ | ⟨hb, e⟩
    · cases e
    · rw [hne b o hb]; exact w.immLoc b o d e
  · rcases hn b _ hu with ⟨rfl, e⟩ | ⟨hb, e⟩
    · injection e with e
      subst e
      simp only [Mem.addTok, if_true] at hj
      injection hj with hj
      subst hj
      simp only [Mem.addTok, Mem.moreImm]
      simp only at he'
      rw [if_neg (by omega)]
      exact hnone o (by omega)
    · rw [hne b o hb]
      by_cases htn : u = m.nx
      · subst htn
        exact absurd (w.ownTok b _ e) (by omega)
      · exact w.immTok b o u j e (htk u j htn hj) he'
  · rcases hn b _ hx with ⟨rfl, _⟩ | ⟨_, e⟩
    · rw [hs]; exact hlt
    · rw [hs]; exact w.lt b x e
  · obtain ⟨b, s, h1, h2, h3⟩ := w.obj l o ho
    have hb : b ≠ i.b := by rintro rfl; rw [hown] at h2; cases h2
    exact ⟨b, s, h1, by rw [ho' b hb]; exact h2, by rw [hk b hb]; exact h3.mono hle⟩
  · rcases List.mem_cons.1 hu with rfl | hu
    · exact ⟨⟨i.b, i.e + k, i.cap, i.s⟩, by simp [Mem.addTok], by simp [ownSet], c', ty, hc', by rw [hsz]; exact hcap, hek⟩
    · have hu1 : u ∈ h.al := List.mem_of_mem_erase hu
      have hut : u ≠ t := fun e => by
        subst e
        exact (List.Nodup.not_mem_erase w.nd) hu
      obtain ⟨j, h1, h2, c3, ty3, h3, h4⟩ := w.tok u hu1
      have hb : j.b ≠ i.b := fun e => by
        rw [e, hown] at h2
        injection h2 with h2; injection h2 with h2
        exact hut h2.symm
      exact ⟨j, hle.tk _ _ h1, by rw [ho' j.b hb]; exact h2, c3, ty3, by rw [hk j.b hb]; exact h3, h4⟩
  · exact List.nodup_cons.2 ⟨fun hm => f4 (List.mem_of_mem_erase hm), w.nd.erase t⟩
  · simp only [Mem.addTok, Mem.moreImm] at hl ⊢
    rw [if_neg (by omega)]
    exact w.nx l (by omega)
  · simp only [Mem.addTok, Mem.moreImm]
    rcases hn b _ hu with ⟨_, e⟩ | ⟨_, e⟩
    · injection e with e; omega
    · have := w.ownTok b u e; omega
  · have hb' : b ≠ i.b := by rintro rfl; exact hf hfoot
    exact ⟨ho' b hb', hk b hb', fun o => hne b o hb'⟩
  · rcases hf with ⟨l, o', s', h1, h2⟩ | ⟨u, j, h1, h2, h3⟩
    · exact .inl ⟨l, o', s', h1, h2⟩
    · rcases List.mem_cons.1 h1 with rfl | h1
      · simp only [Mem.addTok, if_true] at h2
        injection h2 with h2
        subst h2
        simp only at h3
        subst h3
        exact hfoot
      · have h1' := List.mem_of_mem_erase h1
        exact .inr ⟨u, j, h1', htk u j (fun e => f4 (e ▸ h1')) h2, h3⟩
end
end Abs

/- Abs5: contracts over abstract values; the frame's relation. -/
namespace Abs
open Go

def Enterable (P : Program) (f : Nat) : Prop := ∃ fn, P.funcs[f]? = some fn ∧ (fn.name == "runtime.NumGoroutine") = false ∧ fn.body.isNone = false

/-- The streams are as they were. -/
def Outs (w w' : World) : Prop := w'.os = w.os ∧ w'.output = w.output
theorem Outs.refl (w : World) : Outs w w := ⟨rfl, rfl⟩
theorem Outs.trans {a b c : World} (h : Outs a b) (k : Outs b c) : Outs a c := ⟨k.1.trans h.1, k.2.trans h.2⟩

/-- What 'the function f, called with these arguments over this heap, answers so' means in the model. -/
def ACalls (P : Program) : Con := fun f args h R => Enterable P f ∧
  ∀ (m : Mem) (own : Nat → Option Own) (w : World) (cargs : Array Value), WRel m own h w.heap → VRels m args cargs →
    Calls P f cargs w fun e w' => ∃ v cv h' m' own', e = .returned cv ∧ R v h' ∧ VRel m' v cv ∧ WRel m' own' h' w'.heap ∧ Ext m own h w.heap m' own' h' w'.heap ∧ Outs w w'

theorem ACalls.mono {P : Program} {f : Nat} {args : List AV} {h : AHeap} {R R' : AV → AHeap → Prop} (hc : ACalls P f args h R) (hr : ∀ v h', R v h' → R' v h') : ACalls P f args h R' :=
  ⟨hc.1, fun m own w cargs hw ha => (hc.2 m own w cargs hw ha).mono fun _ _ ⟨v, cv, h', m', own', e, r, k⟩ => ⟨v, cv, h', m', own', e, hr v h' r, k⟩⟩

/-- Values of an activation's slots: the local objects too. L: where these lie. -/
inductive ERel (m : Mem) (L : Nat → Option (Nat × Nat)) : AV → Value → Prop
  | plain {v : AV} {cv : Value} (h : VRel m v cv) : ERel m L v cv
  | lp {d b s : Nat} (i o : Nat) (h : L d = some (b, s)) : ERel m L (.lp d i o) (.pointer (some ⟨b, i * s + o, none⟩))
  | lm {d b s : Nat} (off len cap : Nat) (h : L d = some (b, s)) (hc : len ≤ cap) : ERel m L (.lm d s off len) (.slice (some ⟨b, off * s, none⟩) len cap)
  | lmap {d b s : Nat} (h : L d = some (b, s)) : ERel m L (.lmap d) (.map (some b))

theorem ERel.toV {m : Mem} {L : Nat → Option (Nat × Nat)} {v : AV} {cv : Value} (h : ERel m L v cv) (hp : v.plain = true) : VRel m v cv := by
  cases h <;> first | assumption | simp [AV.plain, AV.names] at hp

theorem ERel.mono {m m' : Mem} {L L' : Nat → Option (Nat × Nat)} (hm : m.le m') {v : AV} {cv : Value} (hL : ∀ d, v.names = some d → L' d = L d) (h : ERel m L v cv) : ERel m' L' v cv := by
  cases h with
  | plain h => exact .plain (h.mono hm)
  | lp i o h => exact .lp i o (by rw [hL _ rfl]; exact h)
  | lm off len cap h hc => exact .lm off len cap (by rw [hL _ rfl]; exact h) hc
  | lmap h => exact .lmap (by rw [hL _ rfl]; exact h)

/-- An activation's slots and local objects, against the model's. B: no local object lies below. -/
structure Fr (m : Mem) (own : Nat → Option Own) (L : Nat → Option (Nat × Nat)) (B : Nat) (H : Array Obj) (env : Env) (loc : Loc) (tmps : Array Value) : Prop where
  renv : ∀ k v, env k = some v → ∃ cv, tmps[k]? = some cv ∧ ERel m L v cv
  rloc : ∀ d o, loc d = some o → o ≠ .dead → ∃ b s, L d = some (b, s) ∧ own b = some (.loc d) ∧ B ≤ b ∧ ORel m H[b]? s o
  wf : ∀ k v d, env k = some v → v.names = some d → loc d ≠ none

theorem Fr.mono {m m' : Mem} {own own' : Nat → Option Own} {L : Nat → Option (Nat × Nat)} {B : Nat} {H H' : Array Obj} {env : Env} {loc : Loc} {tmps : Array Value}
    (F : Fr m own L B H env loc tmps) (hm : m.le m') (hk : ∀ b d, own b = some (.loc d) → own' b = some (.loc d) ∧ H'[b]? = H[b]?) : Fr m' own' L B H' env loc tmps := by
  refine ⟨fun k v hv => ?_, fun d o ho hd => ?_, F.wf⟩
  · obtain ⟨cv, h1, h2⟩ := F.renv k v hv
    exact ⟨cv, h1, h2.mono hm fun _ _ => rfl⟩
  · obtain ⟨b, s, h1, h2, h3, h4⟩ := F.rloc d o ho hd
    obtain ⟨k1, k2⟩ := hk b d h2
    exact ⟨b, s, h1, k1, h3, by rw [k2]; exact h4.mono hm⟩

/-- A slot is set. -/
theorem Fr.put {m : Mem} {own : Nat → Option Own} {L : Nat → Option (Nat × Nat)} {B : Nat} {H : Array Obj} {env : Env} {loc : Loc} {a : Act}
    (F : Fr m own L B H env loc a.tmps) {dst : Option Nat} (hd : ∀ d, dst = some d → d < a.tmps.size) {v : AV} {cv : Value} (h : ERel m L v cv) (hw : ∀ d, v.names = some d → loc d ≠ none) :
    Fr m own L B H (env.put dst (some v)) loc (a.put dst cv).tmps := by
  cases dst with
  | none => exact F
  | some d =>
    refine ⟨fun k u hu => ?_, F.rloc, fun k u d' hu hd' => ?_⟩
    · simp only [Env.put, Env.set] at hu
      split at hu
      · rename_i e
        subst e
        injection hu with hu
        subst hu
        exact ⟨cv, by simp [Act.put, hd k rfl], h⟩
      · rename_i e
        obtain ⟨cu, h1, h2⟩ := F.renv k u hu
        exact ⟨cu, by simp only [Act.put]; rw [Array.getElem?_setIfInBounds_ne (fun e' => e e'.symm)]; exact h1, h2⟩
    · simp only [Env.put, Env.set] at hu
      split at hu
      · injection hu with hu
        subst hu
        exact hw d' hd'
      · exact F.wf k u d' hu hd'

theorem Fr.putNone {m : Mem} {own : Nat → Option Own} {L : Nat → Option (Nat × Nat)} {B : Nat} {H : Array Obj} {env : Env} {loc : Loc} {a : Act}
    (F : Fr m own L B H env loc a.tmps) (dst : Option Nat) (cv : Value) : Fr m own L B H (env.put dst none) loc (a.put dst cv).tmps := by
  cases dst with
  | none => exact F
  | some d =>
    refine ⟨fun k u hu => ?_, F.rloc, fun k u d' hu hd' => ?_⟩
    · simp only [Env.put, Env.set] at hu
      split at hu
      · cases hu
      · rename_i e
        obtain ⟨cu, h1, h2⟩ := F.renv k u hu
        exact ⟨cu, by simp only [Act.put]; rw [Array.getElem?_setIfInBounds_ne (fun e' => e e'.symm)]; exact h1, h2⟩
    · simp only [Env.put, Env.set] at hu
      split at hu
      · cases hu
      · exact F.wf k u d' hu hd'

/-- Where an activation began. -/
structure Entry where
  m : Mem
  own : Nat → Option Own
  h : AHeap
  H : Array Obj
  o : World

structure Sim (N : Nat) (E : Entry) (m : Mem) (own : Nat → Option Own) (L : Nat → Option (Nat × Nat)) (s : ASt) (a : Act) (w : World) : Prop where
  size : a.tmps.size = N
  defs : a.defers = []
  world : WRel m own s.h w.heap
  ext : Ext E.m E.own E.h E.H m own s.h w.heap
  fr : Fr m own L E.H.size w.heap s.env s.loc a.tmps
  out : Outs E.o w

def SimK (N : Nat) (E : Entry) (K : ASt → Prop) (a : Act) (w : World) : Prop := ∃ s m own L, K s ∧ Sim N E m own L s a w

/-! ### Operands -/

def scalarOk : Value → AV → Bool
  | .bool a, .bool b => a == b
  | .int k a, .int j b => k == j && a == b
  | .string a, .str b => decide (a = b)
  | .pointer none, .nilp => true
  | .slice none 0 0, .nils => true
  | .map none, .nilm => true
  | .nilFunc, .nilf => true
  | .nilIface, .nili => true
  | _, _ => false

def scalarsOk : List Value → List AV → Bool
  | [], [] => true
  | v :: vs, a :: as => scalarOk v a && scalarsOk vs as
  | _, _ => false

def constOk : Value → AV → Bool
  | .agg cs, .agg ds => scalarsOk cs.toList ds
  | v, a => scalarOk v a

def opdOk : Operand → Opd → Bool
  | .tmp t, .t n => t == n
  | .const v, .c a => constOk v a
  | .func f, .f g => f == g
  | _, _ => false

theorem scalarOk_rel (m : Mem) {v : Value} {a : AV} (h : scalarOk v a = true) : VRel m a v ∧ a.one = true := by
  unfold scalarOk at h
  split at h
  · have h := eq_of_beq h; subst h; exact ⟨.bool _, rfl⟩
  · simp at h; obtain ⟨rfl, rfl⟩ := h; exact ⟨.int _ _, rfl⟩
  · have h := of_decide_eq_true h; subst h; exact ⟨.str _, rfl⟩
  · exact ⟨.nilp, rfl⟩
  · exact ⟨.nils, rfl⟩
  · exact ⟨.nilm, rfl⟩
  · exact ⟨.nilf, rfl⟩
  · exact ⟨.nili, rfl⟩
  · cases h

theorem scalarsOk_rel (m : Mem) : ∀ {vs : List Value} {as : List AV}, scalarsOk vs as = true →
    as.length = vs.length ∧ (∀ c ∈ as, c.one = true) ∧ ∀ (i : Nat) (c : AV) (cv : Value), as[i]? = some c → vs[i]? = some cv → VRel m c cv
  | [], [], _ => ⟨rfl, fun _ h => by simp at h, fun i c cv h => by simp at h⟩
  | v :: vs, a :: as, h => by
    simp only [scalarsOk, Bool.and_eq_true] at h
    obtain ⟨h1, h2⟩ := h
    obtain ⟨e1, e2, e3⟩ := scalarsOk_rel m h2
    obtain ⟨r1, r2⟩ := scalarOk_rel m h1
    refine ⟨by simp [e1], fun c hc => ?_, fun i c cv hc hv => ?_⟩
    · rcases List.mem_cons.1 hc with rfl | hc
      · exact r2
      · exact e2 c hc
    · cases i with
      | zero => simp at hc hv; subst hc; subst hv; exact r1
      | succ i => simp at hc hv; exact e3 i c cv hc hv
  | [], _ :: _, h => by simp [scalarsOk] at h
  | _ :: _, [], h => by simp [scalarsOk] at h

theorem constOk_rel (m : Mem) {v : Value} {a : AV} (h : constOk v a = true) : VRel m a v := by
  unfold constOk at h
  split at h
  · obtain ⟨h1, h2, h3⟩ := scalarsOk_rel m h
    exact .agg (by simpa using h1) h2 (fun i c cv a b => h3 i c cv a (by simpa using b))
  · exact (scalarOk_rel m h).1

theorem ev_sound {N : Nat} {E : Entry} {m : Mem} {own : Nat → Option Own} {L : Nat → Option (Nat × Nat)} {s : ASt} {a : Act} {w : World} (S : Sim N E m own L s a w)
    {X : Operand} {x : Opd} (hx : opdOk X x = true) {v : AV} (hv : s.ev x = some v) : ERel m L v (a.eval X) := by
  cases X <;> cases x <;> simp only [opdOk, beq_iff_eq] at hx <;> first | (cases hx; done) | skip
  · subst hx
    obtain ⟨cv, h1, h2⟩ := S.fr.renv _ v hv
    simpa [Act.eval, h1] using h2
  · injection hv with hv
    subst hv
    exact .plain (constOk_rel m hx)
  · subst hx
    injection hv with hv
    subst hv
    exact .plain (.fn rfl rfl (fun i c cv h => by simp at h) (fun i c cv h => by simp at h))

theorem ev_wf {N : Nat} {E : Entry} {m : Mem} {own : Nat → Option Own} {L : Nat → Option (Nat × Nat)} {s : ASt} {a : Act} {w : World} (S : Sim N E m own L s a w)
    {X : Operand} {x : Opd} (hx : opdOk X x = true) {v : AV} (hv : s.ev x = some v) : ∀ d, v.names = some d → s.loc d ≠ none := by
  intro d hd
  cases X <;> cases x <;> simp only [opdOk] at hx <;> first | (cases hx; done) | skip
  · exact S.fr.wf _ v d hv hd
  · injection hv with hv
    subst hv
    have := (constOk_rel m hx).plain
    simp [AV.plain, hd] at this
  · injection hv with hv
    subst hv
    simp [AV.names] at hd
end Abs

/- Abs6: the passive instructions against the model's operations: those that leave the world alone. -/
namespace Abs
open Go

def Opds (X : List Operand) (x : List Opd) : Bool :=
  match X, x with
  | [], [] => true
  | a :: as, b :: bs => opdOk a b && Opds as bs
  | _, _ => false

def kMov : Op → List Opd → Bool
  | .move x, [y] => opdOk x y
  | .assign x, [y] => opdOk x y
  | _, _ => false
def kPick : Op → List Opd → Bool
  | .pick c x y, [c', x', y'] => opdOk c c' && opdOk x x' && opdOk y y'
  | _, _ => false
def kNilc : Op → List Opd → Bool
  | .nilCheck x, [y] => opdOk x y
  | _, _ => false
def bopOk : BinOp → Bop → Bool
  | .add, .add | .sub, .sub | .mul, .mul | .quo, .quo | .rem, .rem | .eql, .eq | .neq, .ne | .lss, .lt | .leq, .le | .gtr, .gt | .geq, .ge => true
  | _, _ => false
def kBin (b : Bop) : Op → List Opd → Bool
  | .binOp bo _ x y _, [x', y'] => bopOk bo b && opdOk x x' && opdOk y y'
  | _, _ => false
def eqNe (neg : Bool) : BinOp → Bool
  | .eql => !neg
  | .neq => neg
  | _ => false
def kBeq (P : Program) (neg : Bool) : Op → List Opd → Bool
  | .binOp bo t x y _, [x', y'] => eqNe neg bo && opdOk x x' && opdOk y y' && (match P.underlying t with | some .bool => true | _ => false)
  | _, _ => false
def isNilSlice : Operand → Bool
  | .const (.slice none 0 0) => true
  | _ => false
def kIsn (P : Program) (neg : Bool) : Op → List Opd → Bool
  | .binOp bo t x y _, [x'] => eqNe neg bo && opdOk x x' && isNilSlice y && (match P.underlying t with | some (.slice _) => true | _ => false)
  | _, _ => false
def kNot : Op → List Opd → Bool
  | .unOp .not _ x, [y] => opdOk x y
  | _, _ => false
def kNeg : Op → List Opd → Bool
  | .unOp .neg _ x, [y] => opdOk x y
  | _, _ => false
def kConv (P : Program) (k : IntKind) : Op → List Opd → Bool
  | .convert src dst x, [y] => opdOk x y && (P.underlying src).isSome && (match P.underlying dst with | some (.int j) => j == k | _ => false)
  | _, _ => false
def kFld (P : Program) (off : Nat) : Op → List Opd → Bool
  | .fieldAddr t x f, [y] => opdOk x y && (match P.underlying t with
    | some (.struct fs) => (match fs[f]? with
      | some fd => fd.offset == off && (match P.info? fd.type with | some i => i.size != 0 | none => false)
      | none => false)
    | _ => false)
  | _, _ => false
def aggOk (P : Program) (t : TypeId) (n : Nat) (agg : Bool) : Bool :=
  match P.underlying t with
  | some (.struct _) | some (.array _ _) => agg && (match P.info? t with | some i => i.size == n | none => false)
  | some _ => !agg
  | none => false
def kLd (P : Program) (n : Nat) (agg : Bool) : Op → List Opd → Bool
  | .load t x, [y] => opdOk x y && aggOk P t n agg
  | _, _ => false
def kPart (P : Program) (off n : Nat) (agg : Bool) : Op → List Opd → Bool
  | .field t x f, [y] => opdOk x y && (match P.underlying t with
    | some (.struct fs) => (match fs[f]? with
      | some fd => fd.offset == off && aggOk P fd.type n agg
      | none => false)
    | _ => false)
  | _, _ => false
def kIx (P : Program) (s : Nat) : Op → List Opd → Bool
  | .indexAddr t x i, [y, j] => opdOk x y && opdOk i j && (match P.underlying t with
    | some (.slice e) => (match P.info? e with | some i => i.size == s | none => false)
    | _ => false)
  | _, _ => false
def kIxs (P : Program) : Op → List Opd → Bool
  | .index t x i, [y, j] => opdOk x y && opdOk i j && (match P.underlying t with | some .string => true | _ => false)
  | _, _ => false
def kLen (P : Program) (str : Bool) : Op → List Opd → Bool
  | .call { callee := .builtin .len, args := xs, argTypes := ts }, [y] => (match xs.toList, ts.toList with
    | [x], [t] => opdOk x y && (match P.underlying t with | some .string => str | some (.slice _) => !str | _ => false)
    | _, _ => false)
  | _, _ => false
def kExt (j : Nat) : Op → List Opd → Bool
  | .extract x i, [y] => opdOk x y && i == j
  | _, _ => false
def kMinmax (mx : Bool) : Op → List Opd → Bool
  | .call { callee := .builtin b, args := xs, argTypes := _ }, ys => Opds xs.toList ys && (match b with | .max => mx | .min => !mx | _ => false)
  | _, _ => false
def kMkf (g n : Nat) : Op → List Opd → Bool
  | .makeFunc (.func f) first cap, ys => f == g && first.size == n && Opds (first.toList ++ cap.toList) ys
  | _, _ => false
def kMki (P : Program) (u : Nat) : Op → List Opd → Bool
  | .makeInterface t x, [y] => t == u && opdOk x y && (match P.underlying t with | some (.interface _) => false | some _ => true | none => false)
  | _, _ => false
def kCat : Op → List Opd → Bool
  | .binOp .add _ x y _, [x', y'] => opdOk x x' && opdOk y y'
  | _, _ => false

section
variable {P : Program} {N : Nat} {E : Entry} {m : Mem} {own : Nat → Option Own} {L : Nat → Option (Nat × Nat)} {s : ASt} {a : Act} {w : World}

theorem evs_two {x y : Opd} {vs : List AV} (h : s.evs [x, y] = some vs) : ∃ u v, s.ev x = some u ∧ s.ev y = some v ∧ vs = [u, v] := by
  simp only [ASt.evs] at h
  cases hx : s.ev x with
  | none => simp [hx] at h
  | some u =>
    cases hy : s.ev y with
    | none => simp [hx, hy] at h
    | some v => simp [hx, hy] at h; exact ⟨u, v, rfl, rfl, h.symm⟩
theorem evs_one {x : Opd} {vs : List AV} (h : s.evs [x] = some vs) : ∃ u, s.ev x = some u ∧ vs = [u] := by
  simp only [ASt.evs] at h
  cases hx : s.ev x with
  | none => simp [hx] at h
  | some u => simp [hx] at h; exact ⟨u, rfl, h.symm⟩

theorem evs_sound (S : Sim N E m own L s a w) : ∀ {X : List Operand} {x : List Opd} {vs : List AV}, Opds X x = true → s.evs x = some vs →
    vs.length = X.length ∧ ∀ (i : Nat) (v : AV) (A : Operand), vs[i]? = some v → X[i]? = some A → ERel m L v (a.eval A) ∧ ∀ d, v.names = some d → s.loc d ≠ none
  | [], [], vs, _, h => by simp [ASt.evs] at h; subst h; exact ⟨rfl, fun i v A h => by simp at h⟩
  | A :: X, b :: x, vs, h, hv => by
    simp only [Opds, Bool.and_eq_true] at h
    simp only [ASt.evs] at hv
    cases hb : s.ev b with
    | none => simp [hb] at hv
    | some u =>
      cases hr : s.evs x with
      | none => simp [hb, hr] at hv
      | some us =>
        simp [hb, hr] at hv
        subst hv
        obtain ⟨h1, h2⟩ := evs_sound S h.2 hr
        refine ⟨by simp [h1], fun i v A' hi hA => ?_⟩
        cases i with
        | zero => simp at hi hA; subst hi; subst hA; exact ⟨ev_sound S h.1 hb, ev_wf S h.1 hb⟩
        | succ i => simp at hi hA; exact h2 i v A' hi hA
  | [], _ :: _, _, h, _ => by simp [Opds] at h
  | _ :: _, [], _, h, _ => by simp [Opds] at h

theorem rel_int {k : IntKind} {n : Int} {cv : Value} (h : ERel m L (.int k n) cv) : cv = .int k n := by
  cases h with
  | plain h => cases h; rfl
theorem rel_str {x : ByteArray} {cv : Value} (h : ERel m L (.str x) cv) : cv = .string x := by
  cases h with
  | plain h => cases h; rfl
theorem rel_bool {x : Bool} {cv : Value} (h : ERel m L (.bool x) cv) : cv = .bool x := by
  cases h with
  | plain h => cases h; rfl

/-- The operation yields this value and does nothing else. -/
def Yld (P : Program) (o : Oper) (a : Act) (w : World) (cv : Value) : Prop := (execOp a.eval o).run P w = .ok (.value cv) w

/-- What is shown of a passive instruction that leaves the world alone. -/
def Quiet (P : Program) (o : Oper) (a : Act) (w : World) (m : Mem) (L : Nat → Option (Nat × Nat)) (s : ASt) (v : AV) : Prop :=
  ∃ cv, Yld P o a w cv ∧ ERel m L v cv ∧ ∀ d, v.names = some d → s.loc d ≠ none

theorem plain_names {v : AV} (h : v.plain = true) : ∀ d, v.names = some d → s.loc d ≠ none := fun d hd => by simp [AV.plain, hd] at h

theorem Quiet.plain {o : Oper} {v : AV} {cv : Value} (h : Yld P o a w cv) (hv : VRel m v cv) : Quiet P o a w m L s v :=
  ⟨cv, h, .plain hv, plain_names hv.plain⟩

theorem q_mov {o : Oper} {x : List Opd} {v : AV} (S : Sim N E m own L s a w) (hk : kMov o.op x = true) (hx : s.evs x = some [v]) : Quiet P o a w m L s v := by
  unfold kMov at hk
  split at hk
  · rename_i X y ho
    obtain ⟨u, h1, h2⟩ := evs_one hx
    injection h2 with h2
    subst h2
    exact ⟨a.eval X, by simp [Yld, execOp, ho], ev_sound S hk h1, ev_wf S hk h1⟩
  · rename_i X y ho
    obtain ⟨u, h1, h2⟩ := evs_one hx
    injection h2 with h2
    subst h2
    exact ⟨a.eval X, by simp [Yld, execOp, ho], ev_sound S hk h1, ev_wf S hk h1⟩
  · cases hk

theorem q_pick {o : Oper} {x : List Opd} {vs : List AV} (S : Sim N E m own L s a w) (hk : kPick o.op x = true) (hx : s.args .pick x = some vs) :
    ∃ v, vs = [v] ∧ Quiet P o a w m L s v := by
  unfold kPick at hk
  split at hk
  · rename_i c X Y c' x' y' ho
    simp only [Bool.and_eq_true] at hk
    obtain ⟨⟨hc, hX⟩, hY⟩ := hk
    simp only [ASt.args] at hx
    cases hcv : s.ev c' with
    | none => simp [hcv] at hx
    | some u =>
      have hr := ev_sound S hc hcv
      cases u <;> simp [hcv] at hx
      rename_i t
      have ht : a.eval c = .bool t := rel_bool hr
      obtain ⟨v, hv, rfl⟩ := hx
      refine ⟨v, rfl, ?_⟩
      cases t
      · simp at hv
        exact ⟨a.eval Y, by simp [Yld, execOp, ho, ht, asBool], ev_sound S hY hv, ev_wf S hY hv⟩
      · simp at hv
        exact ⟨a.eval X, by simp [Yld, execOp, ho, ht, asBool], ev_sound S hX hv, ev_wf S hX hv⟩
  · cases hk

theorem q_nilc {o : Oper} {x : List Opd} {v : AV} (S : Sim N E m own L s a w) (hk : kNilc o.op x = true) (hx : s.evs x = some [v])
    (hv : (match v with | .lp .. | .hp .. | .rp _ | .fn .. => true | _ => false) = true) : Quiet P o a w m L s v := by
  unfold kNilc at hk
  split at hk
  · rename_i X y ho
    obtain ⟨u, h1, h2⟩ := evs_one hx
    injection h2 with h2
    subst h2
    have hr := ev_sound S hk h1
    refine ⟨a.eval X, ?_, hr, ev_wf S hk h1⟩
    unfold Yld execOp
    simp only [ho]
    generalize a.eval X = cv at hr
    cases hr with
    | plain h => cases h <;> first | rfl | (simp at hv)
    | lp i o h => rfl
    | lm => simp at hv
    | lmap => simp at hv
  · cases hk

theorem beq_str (a b : ByteArray) : (a.toList == b.toList) = decide (a = b) := by
  rw [Bool.eq_iff_iff]
  simp only [beq_iff_eq, decide_eq_true_eq]
  refine ⟨fun h => ?_, fun h => by rw [h]⟩
  have := beq_toListBytes a b
  rw [h] at this
  simp at this
  have h3 : a.data == b.data := this
  have h4 := eq_of_beq h3
  cases a; cases b; simp at h4; rw [h4]

theorem run_bin_int (bo : BinOp) (b : Bop) (hb : bopOk bo b = true) (t : TypeId) (x y : Operand) (k j : IntKind) (n n' : Int) (r : AV) (hr : binV b (.int k n) (.int j n') = some r) :
    ∃ cr, (do eqGuard bo t x y (.int k n) (.int j n'); binOp bo t (.int k n) (.int j n') : Sem Value).run P w = .ok cr w ∧ VRel m r cr := by
  by_cases hkj : k = j
  · subst hkj
    cases bo <;> cases b <;> simp only [bopOk] at hb <;> first | (cases hb; done) | skip
    all_goals simp only [binV, if_true, true_and] at hr
    · injection hr with hr; subst hr; exact ⟨_, by simp only [Sem.run_bind, eqGuard_at_int, Sem.run_pure, Result.andThen_ok, binOp_add]; rfl, .int _ _⟩
    · injection hr with hr; subst hr; exact ⟨_, by simp only [Sem.run_bind, eqGuard_at_int, Sem.run_pure, Result.andThen_ok, binOp_sub]; rfl, .int _ _⟩
    · injection hr with hr; subst hr; exact ⟨_, by simp only [Sem.run_bind, eqGuard_at_int, Sem.run_pure, Result.andThen_ok, binOp_mul]; rfl, .int _ _⟩
    · split at hr
      · rename_i h0
        injection hr with hr; subst hr
        exact ⟨_, by simp only [Sem.run_bind, eqGuard_at_int, Sem.run_pure, Result.andThen_ok, binOp_quo, Op.intDiv, if_neg h0], .int _ _⟩
      · cases hr
    · split at hr
      · rename_i h0
        injection hr with hr; subst hr
        exact ⟨_, by simp only [Sem.run_bind, eqGuard_at_int, Sem.run_pure, Result.andThen_ok, binOp_rem, Op.intDiv, if_neg h0], .int _ _⟩
      · cases hr
    · injection hr with hr; subst hr; exact ⟨_, by simp only [Sem.run_bind, eqGuard_at_int, Sem.run_pure, Result.andThen_ok, binOp_eql]; rfl, .bool _⟩
    · injection hr with hr; subst hr; exact ⟨_, by simp only [Sem.run_bind, eqGuard_at_int, Sem.run_pure, Result.andThen_ok, binOp_neq]; rfl, .bool _⟩
    · injection hr with hr; subst hr; exact ⟨_, by simp only [Sem.run_bind, eqGuard_at_int, Sem.run_pure, Result.andThen_ok, binOp_lss], .bool _⟩
    · injection hr with hr; subst hr; exact ⟨_, by simp only [Sem.run_bind, eqGuard_at_int, Sem.run_pure, Result.andThen_ok, binOp_leq], .bool _⟩
    · injection hr with hr; subst hr; exact ⟨_, by simp only [Sem.run_bind, eqGuard_at_int, Sem.run_pure, Result.andThen_ok, binOp_gtr], .bool _⟩
    · injection hr with hr; subst hr; exact ⟨_, by simp only [Sem.run_bind, eqGuard_at_int, Sem.run_pure, Result.andThen_ok, binOp_geq], .bool _⟩
  · cases b <;> simp [binV, hkj] at hr

theorem run_bin_str (bo : BinOp) (b : Bop) (hb : bopOk bo b = true) (t : TypeId) (x y : Operand) (u v : ByteArray) (r : AV) (hr : binV b (.str u) (.str v) = some r) :
    ∃ cr, (do eqGuard bo t x y (.string u) (.string v); binOp bo t (.string u) (.string v) : Sem Value).run P w = .ok cr w ∧ VRel m r cr := by
  cases bo <;> cases b <;> simp only [bopOk] at hb <;> first | (cases hb; done) | skip
  all_goals simp only [binV] at hr
  all_goals first | (cases hr; done) | skip
  all_goals injection hr with hr; subst hr
  all_goals simp only [Sem.run_bind, eqGuard_at_string, Sem.run_pure, Result.andThen_ok, binOp, Op.stringOp, beq_str]
  all_goals exact ⟨_, rfl, .bool _⟩

theorem q_bin {o : Oper} {x : List Opd} {b : Bop} {u v r : AV} (S : Sim N E m own L s a w) (hk : kBin b o.op x = true) (hx : s.evs x = some [u, v]) (hr : binV b u v = some r) : Quiet P o a w m L s r := by
  unfold kBin at hk
  split at hk
  · rename_i bo t X Y t' x' y' ho
    simp only [Bool.and_eq_true] at hk
    obtain ⟨⟨hb, hX⟩, hY⟩ := hk
    obtain ⟨u', v', h1, h2, h3⟩ := evs_two hx
    injection h3 with h3 h4; injection h4 with h4 _
    subst h3; subst h4
    have ru := ev_sound S hX h1
    have rv := ev_sound S hY h2
    have key : ∃ cr, (do eqGuard bo t X Y (a.eval X) (a.eval Y); binOp bo t (a.eval X) (a.eval Y) : Sem Value).run P w = .ok cr w ∧ VRel m r cr := by
      cases u <;> cases v <;> first | (cases b <;> simp [binV] at hr; done) | skip
      · rw [rel_int ru, rel_int rv]; exact run_bin_int bo b hb t X Y _ _ _ _ r hr
      · rw [rel_str ru, rel_str rv]; exact run_bin_str bo b hb t X Y _ _ r hr
    obtain ⟨cr, h5, h6⟩ := key
    refine Quiet.plain (cv := cr) ?_ h6
    unfold Yld execOp
    simp only [ho]
    simp only [Sem.run_bind] at h5 ⊢
    rw [h5]
    rfl
  · cases hk

theorem q_beq {o : Oper} {x : List Opd} {n b c : Bool} (S : Sim N E m own L s a w) (hk : kBeq P n o.op x = true) (hx : s.evs x = some [.bool b, .bool c]) : Quiet P o a w m L s (.bool ((b == c) != n)) := by
  unfold kBeq at hk
  split at hk
  · rename_i bo t X Y t' x' y' ho
    simp only [Bool.and_eq_true] at hk
    obtain ⟨⟨⟨hb, hX⟩, hY⟩, ht⟩ := hk
    obtain ⟨u', v', h1, h2, h3⟩ := evs_two hx
    injection h3 with h3 h4; injection h4 with h4 _
    subst h3; subst h4
    have ru := rel_bool (ev_sound S hX h1)
    have rv := rel_bool (ev_sound S hY h2)
    have hu : P.underlying t = some .bool := by
      split at ht
      · assumption
      · cases ht
    refine Quiet.plain (cv := .bool ((b == c) != n)) ?_ (.bool _)
    unfold Yld execOp
    simp only [ho, ru, rv]
    cases bo <;> simp only [eqNe] at hb <;> first | (cases hb; done) | skip
    · have hn : n = false := by simpa using hb
      subst hn
      simp only [Sem.run_bind, eqGuard_at_bool, Sem.run_pure, Result.andThen_ok, run_eql_bool w t b c hu, Bool.bne_false]
    · subst hb
      simp only [Sem.run_bind, eqGuard_at_bool, Sem.run_pure, Result.andThen_ok, run_neq_bool w t b c hu, Bool.bne_true]
  · cases hk

theorem q_isn {o : Oper} {x : List Opd} {n b : Bool} {v : AV} (S : Sim N E m own L s a w) (hk : kIsn P n o.op x = true) (hx : s.evs x = some [v])
    (hv : (v = .nils ∧ b = !n) ∨ (∃ sz xs t, v = .sl sz xs t) ∧ b = n) : Quiet P o a w m L s (.bool b) := by
  unfold kIsn at hk
  split at hk
  · rename_i bo t X Y t' x' ho
    simp only [Bool.and_eq_true] at hk
    obtain ⟨⟨⟨hb, hX⟩, hY⟩, ht⟩ := hk
    obtain ⟨u', h1, h2⟩ := evs_one hx
    injection h2 with h2
    subst h2
    have ru := ev_sound S hX h1
    have hu : ∃ e, P.underlying t = some (.slice e) := by
      split at ht
      · exact ⟨_, by assumption⟩
      · cases ht
    obtain ⟨e, hu⟩ := hu
    have rY : a.eval Y = .slice none 0 0 := by
      unfold isNilSlice at hY
      split at hY
      · rfl
      · cases hY
    refine Quiet.plain (cv := .bool b) ?_ (.bool _)
    unfold Yld execOp
    simp only [ho, rY]
    rcases hv with ⟨rfl, rfl⟩ | ⟨⟨sz, xs, tg, rfl⟩, rfl⟩
    · have : a.eval X = .slice none 0 0 := by
        generalize a.eval X = cx at ru
        cases ru with
        | plain h => cases h; rfl
      rw [this]
      cases bo <;> simp only [eqNe] at hb <;> first | (cases hb; done) | skip
      · have hn : n = false := by simpa using hb
        subst hn
        simp only [Sem.run_bind, eqGuard_at_slice, Sem.run_pure, Result.andThen_ok, Go.Lib.run_eql_slice_nil w t e _ _ _ _ _ hu]
        rfl
      · subst hb
        simp only [Sem.run_bind, eqGuard_at_slice, Sem.run_pure, Result.andThen_ok, run_neq_slice_nil_any w t e _ _ _ _ _ hu]
        rfl
    · have : ∃ ad cap, a.eval X = .slice (some ad) xs.length cap := by
        generalize a.eval X = cx at ru
        cases ru with
        | plain h => cases h <;> exact ⟨_, _, rfl⟩
      obtain ⟨ad, cap, this⟩ := this
      rw [this]
      cases bo <;> simp only [eqNe] at hb <;> first | (cases hb; done) | skip
      · have hn : b = false := by simpa using hb
        subst hn
        simp only [Sem.run_bind, eqGuard_at_slice, Sem.run_pure, Result.andThen_ok, Go.Lib.run_eql_slice_nil w t e _ _ _ _ _ hu]
        rfl
      · subst hb
        simp only [Sem.run_bind, eqGuard_at_slice, Sem.run_pure, Result.andThen_ok, run_neq_slice_nil_any w t e _ _ _ _ _ hu]
        rfl
  · cases hk

theorem q_not {o : Oper} {x : List Opd} {b : Bool} (S : Sim N E m own L s a w) (hk : kNot o.op x = true) (hx : s.evs x = some [.bool b]) : Quiet P o a w m L s (.bool (!b)) := by
  unfold kNot at hk
  split at hk
  · rename_i t X y ho
    obtain ⟨u, h1, h2⟩ := evs_one hx
    injection h2 with h2
    subst h2
    have r := rel_bool (ev_sound S hk h1)
    exact Quiet.plain (cv := .bool (!b)) (by simp [Yld, execOp, ho, r, Op.unary]) (.bool _)
  · cases hk

theorem q_neg {o : Oper} {x : List Opd} {k : IntKind} {n : Int} (S : Sim N E m own L s a w) (hk : kNeg o.op x = true) (hx : s.evs x = some [.int k n]) : Quiet P o a w m L s (.int k (k.wrap (0 - n))) := by
  unfold kNeg at hk
  split at hk
  · rename_i t X y ho
    obtain ⟨u, h1, h2⟩ := evs_one hx
    injection h2 with h2
    subst h2
    have r := rel_int (ev_sound S hk h1)
    exact Quiet.plain (cv := .int k (k.wrap (0 - n))) (by unfold Yld execOp; simp only [ho, r, Op.unary, Op.intArith]; rfl) (.int _ _)
  · cases hk

theorem q_conv {o : Oper} {x : List Opd} {k j : IntKind} {n : Int} (S : Sim N E m own L s a w) (hk : kConv P k o.op x = true) (hx : s.evs x = some [.int j n]) : Quiet P o a w m L s (.int k (k.wrap n)) := by
  unfold kConv at hk
  split at hk
  · rename_i src dst X y ho
    simp only [Bool.and_eq_true] at hk
    obtain ⟨⟨hX, hsrc⟩, hd⟩ := hk
    obtain ⟨u, h1, h2⟩ := evs_one hx
    injection h2 with h2
    subst h2
    have r := rel_int (ev_sound S hX h1)
    obtain ⟨ds, hsrc⟩ := Option.isSome_iff_exists.1 hsrc
    have hdst : P.underlying dst = some (.int k) := by
      split at hd
      · rename_i j' h; rw [h]; rw [eq_of_beq hd]
      · cases hd
    refine Quiet.plain (cv := .int k (k.wrap n)) ?_ (.int _ _)
    unfold Yld execOp
    simp only [ho, r]
    simp [convert, run_underlying hsrc, run_underlying hdst, Conv.intToInt]
  · cases hk
end
end Abs

/- Abs7: passive instructions that read: addresses, loads, fields, indexes, lengths. -/
namespace Abs
open Go
section
variable {P : Program} {N : Nat} {E : Entry} {m : Mem} {own : Nat → Option Own} {L : Nat → Option (Nat × Nat)} {s : ASt} {a : Act} {w : World}

theorem q_fld {o : Oper} {x : List Opd} {off : Nat} {p v : AV} (S : Sim N E m own L s a w) (hk : kFld P off o.op x = true) (hx : s.evs x = some [p]) (hv : fldV off p = some v) : Quiet P o a w m L s v := by
  unfold kFld at hk
  split at hk
  · rename_i t X f y ho
    simp only [Bool.and_eq_true] at hk
    obtain ⟨hX, ht⟩ := hk
    obtain ⟨u, h1, h2⟩ := evs_one hx
    injection h2 with h2
    subst h2
    have r := ev_sound S hX h1
    have hwf := ev_wf S hX h1
    split at ht
    · rename_i fs hu
      split at ht
      · rename_i fd hf
        simp only [Bool.and_eq_true, beq_iff_eq] at ht
        obtain ⟨rfl, hsz⟩ := ht
        have hsz : ∃ i, P.info? fd.type = some i ∧ i.size ≠ 0 := by
          split at hsz
          · rename_i i hi
            exact ⟨i, hi, by simpa using hsz⟩
          · cases hsz
        obtain ⟨i, hi, hsz⟩ := hsz
        have key : ∀ b q, a.eval X = .pointer (some ⟨b, q, none⟩) → Yld P o a w (.pointer (some ⟨b, q + fd.offset, none⟩)) := fun b q he => by
          unfold Yld execOp
          simp only [ho, he]
          simp [Instr.fieldAt, run_underlying hu, hf, Instr.sureAddr, fieldPlace, Go.sizeOf, typeInfo, hi, hsz, Addr.add_lit]
        unfold fldV at hv
        split at hv
        · injection hv with hv
          subst hv
          generalize hc : a.eval X = cx at r
          cases r with
          | plain h => cases h
          | lp i' o' h => exact ⟨_, key _ _ hc, by rw [Nat.add_assoc]; exact .lp _ _ h, hwf⟩
        · injection hv with hv
          subst hv
          generalize hc : a.eval X = cx at r
          cases r with
          | plain h =>
            cases h with
            | hp i' o' h => exact ⟨_, key _ _ hc, by rw [Nat.add_assoc]; exact .plain (.hp _ _ h), hwf⟩
        · injection hv with hv
          subst hv
          generalize hc : a.eval X = cx at r
          cases r with
          | plain h =>
            cases h with
            | @rp cs b q g hh hr =>
              refine Quiet.plain (key _ _ hc) (.rp (fun j => g (fd.offset + j)) (fun j c hj => ?_) (fun j c hj => ?_))
              · rw [List.getElem?_drop] at hj
                rw [Nat.add_assoc]
                exact hh _ c hj
              · rw [List.getElem?_drop] at hj
                exact hr _ c hj
        · cases hv
      · cases ht
    · cases ht
  · cases hk

/-- What a load of n cells (or of one) finds, where they are known. -/
theorem run_load_cells (t : TypeId) (n : Nat) (agg : Bool) (ht : aggOk P t n agg = true) (cs : List AV) (v : AV) (b q : Nat) (g : Nat → Value)
    (hg : ∀ j c, cs[j]? = some c → cellH w.heap b (q + j) = some (g j) ∧ VRel m c (g j) ∧ c.one = true) (hv : valOf agg n cs = some v) :
    ∃ cv, (loadVar t ⟨b, q, none⟩).run P w = .ok cv w ∧ VRel m v cv := by
  unfold valOf at hv
  have hcell : ∀ j c, cs[j]? = some c → w.cell? ((⟨b, q, none⟩ : Addr).add j) = some (g j) := fun j c hj => by
    rw [Addr.add_lit, cell_eq]; exact (hg j c hj).1
  cases agg with
  | true =>
    simp only [if_true] at hv
    split at hv
    · rename_i hle
      injection hv with hv
      subst hv
      have hu : (∃ d, P.underlying t = some d ∧ ((∃ fs, d = .struct fs) ∨ ∃ k e, d = .array k e)) ∧ ∃ i, P.info? t = some i ∧ i.size = n := by
        unfold aggOk at ht
        split at ht
        · rename_i fs hu
          refine ⟨⟨_, hu, .inl ⟨_, rfl⟩⟩, ?_⟩
          simp only [Bool.true_and] at ht
          split at ht
          · rename_i i hi; exact ⟨i, hi, by simpa using ht⟩
          · cases ht
        · rename_i k e hu
          refine ⟨⟨_, hu, .inr ⟨_, _, rfl⟩⟩, ?_⟩
          simp only [Bool.true_and] at ht
          split at ht
          · rename_i i hi; exact ⟨i, hi, by simpa using ht⟩
          · cases ht
        · cases ht
        · cases ht
      obtain ⟨⟨d, hu, hd⟩, i, hi, hsz⟩ := hu
      have hl := run_loadCells (P := P) w ⟨b, q, none⟩ n g (fun j hj => by
        have : j < cs.length := by omega
        exact hcell j cs[j] (List.getElem?_eq_getElem this))
      refine ⟨.agg (List.map g (List.range n)).toArray, ?_, .agg (by simp [hle]) (fun c hc => ?_) (fun i c cv hc hcv => ?_)⟩
      · rcases hd with ⟨fs, rfl⟩ | ⟨k, e, rfl⟩ <;> simp [loadVar, isAgg, run_underlying hu, Go.sizeOf, typeInfo, hi, hsz, hl]
      · obtain ⟨j, hj⟩ := List.getElem?_of_mem (List.mem_of_mem_take hc)
        exact (hg j c hj).2.2
      · rw [List.getElem?_take] at hc
        split at hc
        · rename_i hin
          have : cv = g i := by simp [hin] at hcv; exact hcv.symm
          rw [this]
          exact (hg i c hc).2.1
        · cases hc
    · cases hv
  | false =>
    simp only [Bool.false_eq_true, if_false] at hv
    have hu : ∃ d, P.underlying t = some d ∧ (∀ fs, d ≠ .struct fs) ∧ ∀ k e, d ≠ .array k e := by
      unfold aggOk at ht
      cases hu : P.underlying t with
      | none => simp [hu] at ht
      | some d =>
        refine ⟨d, rfl, fun fs e => ?_, fun k e' e => ?_⟩
        · subst e; simp [hu] at ht
        · subst e; simp [hu] at ht
    obtain ⟨d, hu, hd1, hd2⟩ := hu
    have h0 : cs[0]? = some v := by rw [← List.head?_eq_getElem?]; exact hv
    obtain ⟨g1, g2, g3⟩ := hg 0 v h0
    refine ⟨g 0, ?_, g2⟩
    have hc := hcell 0 v h0
    rw [Addr.add_zero'] at hc
    have hag : (isAgg t).run P w = .ok false w := by
      simp only [isAgg, Sem.run_bind, run_underlying hu, Result.andThen_ok]
      cases d <;> first | rfl | exact absurd rfl (hd1 _) | exact absurd rfl (hd2 _ _)
    simp [loadVar, hag, hc]

theorem objCells_rel {ob : Option Obj} {sz : Nat} {o : AObj} {i j : Nat} {cs : List AV} (h : ORel m ob sz o) (hc : objCells (some o) i j = some cs) :
    ∃ c ty, ob = some (.cells c ty (0, 0)) ∧ ∃ g : Nat → Value, ∀ (k : Nat) (x : AV), cs[k]? = some x → c[i * sz + (j + k)]? = some (g k) ∧ VRel m x (g k) ∧ x.one = true := by
  cases o with
  | arr s' xs =>
    obtain ⟨rfl, c, ty, h3, h5⟩ := h
    refine ⟨c, ty, h3, fun k => (c[i * s' + (j + k)]?).getD undef, fun k x hx => ?_⟩
    simp only [objCells] at hc
    cases hi : xs[i]? with
    | none => simp [hi] at hc
    | some e =>
      simp [hi] at hc
      subst hc
      rw [List.getElem?_drop] at hx
      obtain ⟨h6, cv, h7, h8⟩ := h5.cell i e (j + k) x hi hx
      refine ⟨?_, ?_, h6⟩
      · show c[i * s' + (j + k)]? = some ((c[i * s' + (j + k)]?).getD undef)
        rw [h7]; rfl
      · show VRel m x ((c[i * s' + (j + k)]?).getD undef)
        rw [h7]; exact h8
  | map => simp [objCells] at hc
  | dead => simp [objCells] at hc

theorem q_ld {o : Oper} {x : List Opd} {n : Nat} {agg : Bool} {p v : AV} (S : Sim N E m own L s a w) (hk : kLd P n agg o.op x = true) (hx : s.evs x = some [p])
    (hv : ldV s.loc n agg p = some v ∨ ldhV s.loc s.h n agg p = some v) : Quiet P o a w m L s v := by
  unfold kLd at hk
  split at hk
  · rename_i t X y ho
    simp only [Bool.and_eq_true] at hk
    obtain ⟨hX, ht⟩ := hk
    obtain ⟨u, h1, h2⟩ := evs_one hx
    injection h2 with h2
    subst h2
    have r := ev_sound S hX h1
    have key : ∀ b q cs (g : Nat → Value), a.eval X = .pointer (some ⟨b, q, none⟩) → valOf agg n cs = some v →
        (∀ j c, cs[j]? = some c → cellH w.heap b (q + j) = some (g j) ∧ VRel m c (g j) ∧ c.one = true) → Quiet P o a w m L s v := fun b q cs g he hv hg => by
      obtain ⟨cv, hr, hvr⟩ := run_load_cells (P := P) t n agg ht cs v b q g hg hv
      refine Quiet.plain (cv := cv) ?_ hvr
      unfold Yld execOp
      simp only [ho, he]
      simp [Instr.loadAt, Instr.sureAddr, hr]
    have local_ : ldV s.loc n agg p = some v → Quiet P o a w m L s v := fun hv => by
      unfold ldV at hv
      split at hv
      · rename_i d i j _
        cases ho' : objCells (s.loc d) i j with
        | none => simp [ho'] at hv
        | some cs =>
          simp [ho'] at hv
          cases hl : s.loc d with
          | none => simp [hl, objCells] at ho'
          | some ob =>
            have hd : ob ≠ .dead := by rintro rfl; simp [hl, objCells] at ho'
            obtain ⟨b, sz, e1, e2, e3, e4⟩ := S.fr.rloc d ob hl hd
            rw [hl] at ho'
            obtain ⟨c, ty, e5, g, e6⟩ := objCells_rel e4 ho'
            generalize hc : a.eval X = cx at r
            cases r with
            | plain h => cases h
            | lp i' o' h =>
              rw [e1] at h
              injection h with h; injection h with h h'
              subst h; subst h'
              refine key b (i * sz + j) cs g hc hv fun k x hx => ?_
              obtain ⟨f1, f2, f3⟩ := e6 k x hx
              refine ⟨?_, f2, f3⟩
              unfold cellH
              rw [e5, Nat.add_assoc]
              exact f1
      · rename_i cs _
        generalize hc : a.eval X = cx at r
        cases r with
        | plain h =>
          cases h with
          | rp g hh hr => exact key _ _ cs g hc hv fun j c hj => ⟨S.world.imm _ _ _ (hh j c hj).1, hr j c hj, (hh j c hj).2⟩
      · cases hv
    rcases hv with hv | hv
    · exact local_ hv
    · unfold ldhV at hv
      split at hv
      · rename_i l i j
        cases ho' : objCells (s.h.os l) i j with
        | none => simp [ho'] at hv
        | some cs =>
          simp [ho'] at hv
          cases hl : s.h.os l with
          | none => simp [hl, objCells] at ho'
          | some ob =>
            obtain ⟨b, sz, e1, e2, e4⟩ := S.world.obj l ob hl
            rw [hl] at ho'
            obtain ⟨c, ty, e5, g, e6⟩ := objCells_rel e4 ho'
            generalize hc : a.eval X = cx at r
            cases r with
            | plain h =>
              cases h with
              | hp i' o' h =>
                rw [e1] at h
                injection h with h; injection h with h h'
                subst h; subst h'
                refine key b (i * sz + j) cs g hc hv fun k x hx => ?_
                obtain ⟨f1, f2, f3⟩ := e6 k x hx
                refine ⟨?_, f2, f3⟩
                unfold cellH
                rw [e5, Nat.add_assoc]
                exact f1
      · exact local_ hv
  · cases hk

theorem q_ix {o : Oper} {x : List Opd} {sz : Nat} {k : IntKind} {i : Int} {p v : AV} (S : Sim N E m own L s a w) (hk : kIx P sz o.op x = true) (hx : s.evs x = some [p, .int k i])
    (hv : ixV sz i p = some v) : Quiet P o a w m L s v := by
  unfold kIx at hk
  split at hk
  · rename_i t X I y j ho
    simp only [Bool.and_eq_true] at hk
    obtain ⟨⟨hX, hI⟩, ht⟩ := hk
    obtain ⟨u, u', h1, h2, h3⟩ := evs_two hx
    injection h3 with h3 h4; injection h4 with h4 _
    subst h3; subst h4
    have r := ev_sound S hX h1
    have hwf := ev_wf S hX h1
    have ri := rel_int (ev_sound S hI h2)
    split at ht
    · rename_i e hu
      have hinfo : ∃ ie, P.info? e = some ie ∧ ie.size = sz := by
        split at ht
        · rename_i ie hi; exact ⟨ie, hi, by simpa using ht⟩
        · cases ht
      obtain ⟨ie, hie, hsz⟩ := hinfo
      have key : ∀ b q n cap, a.eval X = .slice (some ⟨b, q, none⟩) n cap → 0 ≤ i → i < (n : Int) → Yld P o a w (.pointer (some ⟨b, q + i.toNat * sz, none⟩)) := fun b q n cap he h0 hlt => by
        unfold Yld execOp
        simp only [ho, he, ri]
        simp [Instr.indexAt, asIntOf, run_underlying hu, h0, hlt, Go.sizeOf, typeInfo, hie, hsz, Addr.add_lit]
      unfold ixV at hv
      split at hv
      · split at hv
        · rename_i s' xs tg hc
          obtain ⟨rfl, h0⟩ := hc
          cases hi : xs[i.toNat]? with
          | none => simp [hi] at hv
          | some el =>
            simp [hi] at hv
            subst hv
            have hlt : i.toNat < xs.length := (List.getElem?_eq_some_iff.1 hi).1
            generalize hcx : a.eval X = cx at r
            cases r with
            | plain h =>
              cases h with
              | @sl _ _ _ b q cap g hs hcap hh hr htag =>
                refine Quiet.plain (key _ _ _ _ hcx h0 (by omega)) (.rp (fun j => g (i.toNat * s' + j)) (fun j c hj => ?_) (fun j c hj => ?_))
                · rw [Nat.add_assoc]
                  exact hh _ _ j c hi hj
                · exact hr _ _ j c hi hj
              | sl0 ad ht => simp at hi
        · cases hv
      · split at hv
        · rename_i d s' off len hc
          obtain ⟨rfl, h0, hlt⟩ := hc
          injection hv with hv
          subst hv
          generalize hcx : a.eval X = cx at r
          cases r with
          | plain h => cases h
          | lm off' len' cap h hcap =>
            refine ⟨_, key _ _ _ _ hcx h0 hlt, ?_, hwf⟩
            have e : off * s' + i.toNat * s' = (off + i.toNat) * s' + 0 := by rw [Nat.add_mul]; rfl
            rw [e]
            exact .lp _ 0 h
        · cases hv
      · split at hv
        · rename_i l s' off len cp hc
          obtain ⟨rfl, h0, hlt⟩ := hc
          injection hv with hv
          subst hv
          generalize hcx : a.eval X = cx at r
          cases r with
          | plain h =>
            cases h with
            | hm off' len' cap h hcap =>
              refine Quiet.plain (key _ _ _ _ hcx h0 hlt) ?_
              have e : off * s' + i.toNat * s' = (off + i.toNat) * s' + 0 := by rw [Nat.add_mul]; rfl
              rw [e]
              exact .hp _ 0 h
        · cases hv
      · cases hv
    · cases ht
  · cases hk

theorem q_part {o : Oper} {x : List Opd} {off n : Nat} {agg : Bool} {cs : List AV} {v : AV} (S : Sim N E m own L s a w) (hk : kPart P off n agg o.op x = true) (hx : s.evs x = some [.agg cs])
    (hv : valOf agg n (cs.drop off) = some v) : Quiet P o a w m L s v := by
  unfold kPart at hk
  split at hk
  · rename_i t X f y ho
    simp only [Bool.and_eq_true] at hk
    obtain ⟨hX, ht⟩ := hk
    obtain ⟨u, h1, h2⟩ := evs_one hx
    injection h2 with h2
    subst h2
    have r := ev_sound S hX h1
    split at ht
    · rename_i fs hu
      split at ht
      · rename_i fd hf
        simp only [Bool.and_eq_true, beq_iff_eq] at ht
        obtain ⟨rfl, hag⟩ := ht
        generalize hc : a.eval X = cx at r
        cases r with
        | plain h =>
          cases h with
          | @agg _ ca hl h1' h2' =>
            have key : ∀ cv, (part fd.type ca fd.offset).run P w = .ok cv w → Yld P o a w cv := fun cv hr => by
              unfold Yld execOp
              simp only [ho, hc]
              simp [Instr.field, run_underlying hu, hf, asAgg, hr]
            unfold valOf at hv
            cases agg with
            | true =>
              simp only [if_true] at hv
              split at hv
              · rename_i hle
                injection hv with hv
                subst hv
                have hi : (isAgg fd.type).run P w = .ok true w ∧ ∃ i, P.info? fd.type = some i ∧ i.size = n := by
                  unfold aggOk at hag
                  split at hag
                  · rename_i fs' hu'
                    simp only [Bool.true_and] at hag
                    split at hag
                    · rename_i i hi; exact ⟨by simp [isAgg, run_underlying hu'], i, hi, by simpa using hag⟩
                    · cases hag
                  · rename_i k e hu'
                    simp only [Bool.true_and] at hag
                    split at hag
                    · rename_i i hi; exact ⟨by simp [isAgg, run_underlying hu'], i, hi, by simpa using hag⟩
                    · cases hag
                  · cases hag
                  · cases hag
                obtain ⟨hi0, i, hi, hsz⟩ := hi
                refine Quiet.plain (key (.agg (ca.extract fd.offset (fd.offset + n))) (by simp [part, hi0, Go.sizeOf, typeInfo, hi, hsz])) (.agg ?_ (fun c hc => ?_) (fun i c cv hc hcv => ?_))
                · simp only [List.length_drop] at hle
                  simp [← hl]
                  omega
                · exact h1' c (List.mem_of_mem_drop (List.mem_of_mem_take hc))
                · rw [List.getElem?_take] at hc
                  split at hc
                  · rename_i hin
                    rw [List.getElem?_drop] at hc
                    refine h2' _ c cv hc ?_
                    rw [Array.getElem?_extract] at hcv
                    split at hcv
                    · exact hcv
                    · cases hcv
                  · cases hc
              · cases hv
            | false =>
              simp only [Bool.false_eq_true, if_false] at hv
              have h0 : cs[fd.offset]? = some v := by
                rw [List.head?_eq_getElem?, List.getElem?_drop] at hv
                exact hv
              have hlt : fd.offset < ca.size := by rw [← hl]; exact (List.getElem?_eq_some_iff.1 h0).1
              have hag' : (isAgg fd.type).run P w = .ok false w := by
                unfold aggOk at hag
                cases hu' : P.underlying fd.type with
                | none => simp [hu'] at hag
                | some d =>
                  simp only [isAgg, Sem.run_bind, run_underlying hu', Result.andThen_ok]
                  cases d <;> first | rfl | simp [hu'] at hag
              exact Quiet.plain (key ca[fd.offset] (by simp [part, hag', hlt])) (h2' _ _ _ h0 (Array.getElem?_eq_getElem hlt))
      · cases ht
    · cases ht
  · cases hk

theorem q_ixs {o : Oper} {x : List Opd} {k : IntKind} {i : Int} {p : ByteArray} {b : UInt8} (S : Sim N E m own L s a w) (hk : kIxs P o.op x = true) (hx : s.evs x = some [.str p, .int k i])
    (h0 : 0 ≤ i) (hb : p.data.toList[i.toNat]? = some b) : Quiet P o a w m L s (.int .u8 b.toNat) := by
  unfold kIxs at hk
  split at hk
  · rename_i t X I y j ho
    simp only [Bool.and_eq_true] at hk
    obtain ⟨⟨hX, hI⟩, ht⟩ := hk
    obtain ⟨u, u', h1, h2, h3⟩ := evs_two hx
    injection h3 with h3 h4; injection h4 with h4 _
    subst h3; subst h4
    have r := rel_str (ev_sound S hX h1)
    have ri := rel_int (ev_sound S hI h2)
    have hu : P.underlying t = some .string := by
      split at ht
      · assumption
      · cases ht
    have hlt : i.toNat < p.size := by
      have := (List.getElem?_eq_some_iff.1 hb).1
      simpa using this
    have hb' : p[i.toNat]? = some b := by
      have : p.data[i.toNat]? = some b := by rw [← Array.getElem?_toList]; exact hb
      simp only [getElem?_def, hlt, dite_true]
      rw [Array.getElem?_eq_getElem (by simpa using hlt)] at this
      exact this
    refine Quiet.plain (cv := .int .u8 b.toNat) ?_ (.int _ _)
    unfold Yld execOp
    simp only [ho, r, ri]
    simp [Instr.index, asIntOf, run_underlying hu, h0, hb']
  · cases hk

theorem len_key {str : Bool} {o : Oper} {x : List Opd} {p : AV} (S : Sim N E m own L s a w) (hk : kLen P str o.op x = true) (hx : s.evs x = some [p]) :
    ∃ cv t, ERel m L p cv ∧ (if str then P.underlying t = some .string else ∃ e, P.underlying t = some (.slice e)) ∧
      ∀ n : Nat, (Builtin.len_ #[t] o.type #[cv]).run P w = .ok (goInt n) w → Quiet P o a w m L s (.int .i64 n) := by
  unfold kLen at hk
  split at hk
  · rename_i xs ts y ho
    split at hk
    · rename_i X t hxs hts
      simp only [Bool.and_eq_true] at hk
      obtain ⟨hX, ht⟩ := hk
      obtain ⟨u, h1, h2⟩ := evs_one hx
      injection h2 with h2
      subst h2
      have r := ev_sound S hX h1
      have e1 : xs = #[X] := by rw [← Array.toArray_toList (xs := xs), hxs]
      have e2 : ts = #[t] := by rw [← Array.toArray_toList (xs := ts), hts]
      subst e1; subst e2
      refine ⟨a.eval X, t, r, ?_, fun n hr => ?_⟩
      · split at ht
        · rename_i hu; subst ht; exact hu
        · rename_i e hu
          have : str = false := by simpa using ht
          subst this
          exact ⟨e, hu⟩
        · cases ht
      · refine Quiet.plain (cv := goInt n) ?_ (.int _ _)
        unfold Yld execOp
        simp only [ho]
        simp [resolve, invoke, builtin, hr]
    · cases hk
  · cases hk

theorem q_lens {o : Oper} {x : List Opd} {p : ByteArray} (S : Sim N E m own L s a w) (hk : kLen P true o.op x = true) (hx : s.evs x = some [.str p]) : Quiet P o a w m L s (.int .i64 p.size) := by
  obtain ⟨cv, t, r, hu, key⟩ := len_key S hk hx
  simp only [if_true] at hu
  refine key _ ?_
  rw [rel_str r]
  simp [Builtin.len_, run_underlying hu]

theorem q_len {o : Oper} {x : List Opd} {p v : AV} (S : Sim N E m own L s a w) (hk : kLen P false o.op x = true) (hx : s.evs x = some [p]) (hv : lenV p = some v) : Quiet P o a w m L s v := by
  obtain ⟨cv, t, r, hu, key⟩ := len_key S hk hx
  simp only [Bool.false_eq_true, if_false] at hu
  obtain ⟨e, hu⟩ := hu
  have key2 : ∀ (n : Nat) ad cap, cv = .slice ad n cap → Quiet P o a w m L s (.int .i64 n) := fun n ad cap he => by
    refine key _ ?_
    rw [he]
    simp [Builtin.len_, run_underlying hu]
  unfold lenV at hv
  split at hv
  · injection hv with hv; subst hv
    cases r with
    | plain h => cases h; exact key2 0 _ _ rfl
  · injection hv with hv; subst hv
    cases r with
    | plain h => cases h <;> exact key2 _ _ _ rfl
  · injection hv with hv; subst hv
    cases r with
    | plain h => cases h
    | lm off len cap h hc => exact key2 _ _ _ rfl
  · injection hv with hv; subst hv
    cases r with
    | plain h => cases h <;> exact key2 _ _ _ rfl
  · cases hv

theorem q_ext {o : Oper} {x : List Opd} {i : Nat} {vs : List AV} {v : AV} (S : Sim N E m own L s a w) (hk : kExt i o.op x = true) (hx : s.evs x = some [.tup vs]) (hv : vs[i]? = some v) : Quiet P o a w m L s v := by
  unfold kExt at hk
  split at hk
  · rename_i X i' y ho
    simp only [Bool.and_eq_true, beq_iff_eq] at hk
    obtain ⟨hX, rfl⟩ := hk
    obtain ⟨u, h1, h2⟩ := evs_one hx
    injection h2 with h2
    subst h2
    have r := ev_sound S hX h1
    generalize hc : a.eval X = cx at r
    cases r with
    | plain h =>
      cases h with
      | @tup _ ca hl h2 =>
        have hlt : i' < ca.size := by rw [← hl]; exact (List.getElem?_eq_some_iff.1 hv).1
        refine Quiet.plain (cv := ca[i']) ?_ (h2 _ _ _ hv (Array.getElem?_eq_getElem hlt))
        unfold Yld execOp
        simp only [ho, hc]
        simp [Instr.extract, hlt]
  · cases hk

theorem run_min2 (k : IntKind) (x y : Int) : (Builtin.min2 (.int k x) (.int k y)).run P w = .ok (.int k (min x y)) w := by
  have : (if y < x then y else x) = min x y := by omega
  simp [Builtin.min2, this]
theorem run_max2 (k : IntKind) (x y : Int) : (Builtin.max2 (.int k x) (.int k y)).run P w = .ok (.int k (max x y)) w := by
  have : (if y > x then y else x) = max x y := by omega
  simp [Builtin.max2]
  omega

theorem run_fold (mx : Bool) : ∀ (vs : List AV) (cs : List Value) (v r : AV) (cv : Value), VRel m v cv → vs.length = cs.length →
    (∀ (i : Nat) (c : AV) (d : Value), vs[i]? = some c → cs[i]? = some d → ERel m L c d) → minmaxV mx v vs = some r →
    ∃ cr, (cs.foldlM (if mx then Builtin.max2 else Builtin.min2) cv).run P w = .ok cr w ∧ VRel m r cr
  | [], [], v, r, cv, hv, _, _, hr => by
    simp [minmaxV] at hr
    subst hr
    exact ⟨cv, rfl, hv⟩
  | u :: vs, c :: cs, v, r, cv, hv, hl, hrel, hr => by
    cases v <;> cases u <;> first | (simp [minmaxV] at hr; done) | skip
    rename_i k x j y
    simp only [minmaxV] at hr
    split at hr
    · rename_i e
      subst e
      have h1 : cv = .int k x := by cases hv; rfl
      have h2 : c = .int k y := rel_int (hrel 0 _ _ rfl rfl)
      subst h1; subst h2
      obtain ⟨cr, h3, h4⟩ := run_fold mx vs cs _ r (.int k (if mx then max x y else min x y)) (.int _ _) (by simpa using hl) (fun i c d a b => hrel (i + 1) c d (by simpa using a) (by simpa using b)) hr
      refine ⟨cr, ?_, h4⟩
      simp only [List.foldlM_cons, Sem.run_bind]
      cases mx
      · simp only [Bool.false_eq_true, if_false] at h3 ⊢
        rw [run_min2]; exact h3
      · simp only [if_true] at h3 ⊢
        rw [run_max2]; exact h3
    · cases hr
  | [], _ :: _, _, _, _, _, hl, _, _ => by simp at hl
  | _ :: _, [], _, _, _, _, hl, _, _ => by simp at hl

theorem q_minmax {o : Oper} {x : List Opd} {mx : Bool} {v : AV} {vs : List AV} {r : AV} (S : Sim N E m own L s a w) (hk : kMinmax mx o.op x = true) (hx : s.evs x = some (v :: vs)) (hv : minmaxV mx v vs = some r)
    (hp : v.plain = true) : Quiet P o a w m L s r := by
  unfold kMinmax at hk
  split at hk
  · rename_i ys b xs ts ho
    simp only [Bool.and_eq_true] at hk
    obtain ⟨hX, hb⟩ := hk
    obtain ⟨h1, h2⟩ := evs_sound S hX hx
    cases hxs : xs.toList with
    | nil => rw [hxs] at h1; simp at h1
    | cons X Xs =>
      rw [hxs] at h1 h2
      have r0 := (h2 0 v X rfl rfl).1.toV hp
      obtain ⟨cr, h3, h4⟩ := run_fold (P := P) (w := w) (L := L) mx vs (Xs.map a.eval) v r (a.eval X) r0 (by simpa using h1) (fun i c d hc hd => by
        rw [List.getElem?_map] at hd
        cases hX' : Xs[i]? with
        | none => simp [hX'] at hd
        | some A =>
          simp [hX'] at hd
          subst hd
          exact (h2 (i + 1) c A (by simpa using hc) (by simpa using hX')).1) hv
      have e1 : xs = (X :: Xs).toArray := by rw [← hxs]
      subst e1
      refine Quiet.plain (cv := cr) ?_ h4
      unfold Yld execOp
      simp only [ho]
      cases b <;> simp only at hb <;> first | (cases hb; done) | skip
      · subst hb
        simp only [if_true] at h3
        simp [resolve, invoke, builtin, Builtin.max_, h3]
      · have : mx = false := by simpa using hb
        subst this
        simp only [Bool.false_eq_true, if_false] at h3
        simp [resolve, invoke, builtin, Builtin.min_, h3]
  · cases hk
end
end Abs

/- Abs8: rows of cells written; struct literals; the passive instructions that are left. -/
namespace Abs
open Go

/-- From cell p on, these values. -/
structure Wr (c c' : Array Value) (p : Nat) (vs : List Value) : Prop where
  size : c'.size = c.size
  get : ∀ k, c'[k]? = if p ≤ k ∧ k < p + vs.length then vs[k - p]? else c[k]?

theorem Wr.splice (c : Array Value) (p : Nat) (vs : List Value) (h : p + vs.length ≤ c.size) : Wr c (c.toList.take p ++ vs ++ c.toList.drop (p + vs.length)).toArray p vs := by
  refine ⟨by simp; omega, fun k => ?_⟩
  rw [List.getElem?_toArray]
  by_cases h1 : k < p
  · rw [if_neg (by omega), List.append_assoc, List.getElem?_append_left (by simp; omega), List.getElem?_take, if_pos h1, Array.getElem?_toList]
  · by_cases h2 : k < p + vs.length
    · rw [if_pos ⟨by omega, h2⟩, List.append_assoc, List.getElem?_append_right (by simp; omega), List.getElem?_append_left (by simp; omega)]
      congr 1
      simp
      omega
    · rw [if_neg (by omega), List.getElem?_append_right (by simp; omega), List.getElem?_drop, Array.getElem?_toList]
      congr 1
      simp
      omega

theorem Wr.refl (c : Array Value) (p : Nat) : Wr c c p [] := ⟨rfl, fun k => by rw [if_neg]; simp only [List.length_nil, Nat.add_zero]; omega⟩

theorem fold_wr (off : Nat) : ∀ (vs : List Value) (j : Nat) (c : Array Value), off + j + vs.length ≤ c.size →
    Wr c ((vs.zipIdx j).foldl (fun cs (x : Value × Nat) => cs.setIfInBounds (off + x.2) x.1) c) (off + j) vs
  | [], j, c, _ => Wr.refl c _
  | v :: vs, j, c, h => by
    have ih := fold_wr off vs (j + 1) (c.setIfInBounds (off + j) v) (by simp at h ⊢; omega)
    simp only [List.zipIdx_cons, List.foldl_cons]
    refine ⟨ih.size.trans (by simp), fun k => ?_⟩
    rw [ih.get]
    simp only [List.length_cons] at h ⊢
    by_cases h1 : off + (j + 1) ≤ k ∧ k < off + (j + 1) + vs.length
    · rw [if_pos h1, if_pos (by omega), show k - (off + j) = (k - (off + (j + 1))) + 1 from by omega]
      rfl
    · rw [if_neg h1]
      by_cases h2 : k = off + j
      · subst h2
        rw [if_pos (by omega), Nat.sub_self, List.getElem?_cons_zero, Array.getElem?_setIfInBounds_self_of_lt (by omega)]
      · rw [if_neg (by omega), Array.getElem?_setIfInBounds_ne (by omega)]

theorem Rows.write {m : Mem} {s : Nat} {xs xs' : List (List AV)} {c c' : Array Value} {i j : Nat} {cs : List AV} {vs : List Value} (h : Rows m s xs c) (hw : wrElem xs i j cs = some xs')
    (hl : cs.length = vs.length) (h1 : ∀ x ∈ cs, x.one = true) (hr : ∀ (k : Nat) (x : AV) (v : Value), cs[k]? = some x → vs[k]? = some v → VRel m x v) (hc : Wr c c' (i * s + j) vs) : Rows m s xs' c' := by
  unfold wrElem at hw
  cases he : xs[i]? with
  | none => simp [he] at hw
  | some e =>
    simp only [he] at hw
    split at hw
    · rename_i hj
      injection hw with hw
      subst hw
      have hs : e.length = s := h.len e (List.mem_of_getElem? he)
      have hlt : i < xs.length := (List.getElem?_eq_some_iff.1 he).1
      have hel : (e.take j ++ cs ++ e.drop (j + cs.length)).length = s := by simp; omega
      refine ⟨fun e' he' => ?_, by rw [hc.size, h.size]; simp, fun i' e' j' x hi' hj' => ?_⟩
      · rcases List.mem_or_eq_of_mem_set he' with h2 | h2
        · exact h.len e' h2
        · rw [h2]; exact hel
      · have hxs : (xs.set i (e.take j ++ cs ++ e.drop (j + cs.length)))[i']? = some e' := hi'
        rw [List.getElem?_set] at hxs
        have hjs : j' < s := by
          have hlen : e'.length = s := by
            rcases List.mem_or_eq_of_mem_set (List.mem_of_getElem? hi') with h2 | h2
            · exact h.len e' h2
            · rw [h2]; exact hel
          rw [← hlen]; exact (List.getElem?_eq_some_iff.1 hj').1
        split at hxs
        · rename_i hii
          subst hii
          try rw [if_pos hlt] at hxs
          injection hxs with hxs
          subst hxs
          rw [hc.get]
          by_cases hin : j ≤ j' ∧ j' < j + cs.length
          · rw [if_pos (by omega)]
            have hx : cs[j' - j]? = some x := by
              rw [List.append_assoc, List.getElem?_append_right (by simp; omega), List.getElem?_append_left (by simp; omega)] at hj'
              rw [← hj']
              congr 1
              simp
              omega
            have hk : i * s + j' - (i * s + j) = j' - j := by omega
            rw [hk]
            have hlt2 : j' - j < vs.length := by omega
            exact ⟨h1 x (List.mem_of_getElem? hx), vs[j' - j], List.getElem?_eq_getElem hlt2, hr _ x _ hx (List.getElem?_eq_getElem hlt2)⟩
          · rw [if_neg (by omega)]
            refine h.cell i e j' x he ?_
            rw [← hj']
            by_cases h3 : j' < j
            · rw [List.append_assoc, List.getElem?_append_left (by simp; omega), List.getElem?_take, if_pos h3]
            · rw [List.getElem?_append_right (by simp; omega), List.getElem?_drop]
              congr 1
              simp
              omega
        · rename_i hii
          rw [hc.get]
          have hne : i * s + s ≤ i' * s + j' ∨ i' * s + j' < i * s := by
            rcases Nat.lt_or_gt_of_ne hii with h3 | h3
            · left
              have : (i + 1) * s ≤ i' * s := Nat.mul_le_mul_right s h3
              rw [Nat.add_mul, Nat.one_mul] at this
              omega
            · right
              have : (i' + 1) * s ≤ i * s := Nat.mul_le_mul_right s h3
              rw [Nat.add_mul, Nat.one_mul] at this
              omega
          rw [if_neg (by omega)]
          exact h.cell i' e' j' x hxs hj'
    · cases hw

theorem Rows.one {m : Mem} {cs : List AV} {c : Array Value} (h : VRels m cs c) (h1 : ∀ x ∈ cs, x.one = true) : Rows m cs.length [cs] c := by
  refine ⟨fun e he => by simp at he; rw [he], by simp [h.1], fun i e j x hi hj => ?_⟩
  cases i with
  | zero =>
    simp at hi
    subst hi
    have hlt : j < c.size := by rw [← h.1]; exact (List.getElem?_eq_some_iff.1 hj).1
    exact ⟨h1 x (List.mem_of_getElem? hj), c[j], by simp [hlt], h.2 j x _ hj (Array.getElem?_eq_getElem hlt)⟩
  | succ i => simp at hi

theorem Rows.toVRels {m : Mem} {s : Nat} {cs : List AV} {c : Array Value} (h : Rows m s [cs] c) : VRels m cs c ∧ ∀ x ∈ cs, x.one = true := by
  have hs := h.len cs (by simp)
  refine ⟨⟨by rw [h.size]; simp [hs], fun i x v hx hv => ?_⟩, fun x hx => ?_⟩
  · obtain ⟨_, cv, h1, h2⟩ := h.cell 0 cs i x rfl hx
    rw [Nat.zero_mul, Nat.zero_add, hv] at h1
    injection h1 with h1
    rw [h1]; exact h2
  · obtain ⟨j, hj⟩ := List.getElem?_of_mem hx
    exact (h.cell 0 cs j x rfl hj).1

/-- The model's 'fill' against rows. -/
theorem fill_rows {m : Mem} {s : Nat} (place : Nat → Option (Nat × Nat)) : ∀ (us : List AV) (parts : List (Nat × Value)) (xs xs' : List (List AV)) (c : Array Value),
    Rows m s xs c → us.length = parts.length → (∀ (k : Nat) (u : AV) (p : Nat × Value), us[k]? = some u → parts[k]? = some p → VRel m u p.2 ∧ u.fit = true) →
    ∀ (ws : List (Nat × Nat)), ws.length = us.length → (∀ (k : Nat) (q : Nat × Nat) (u : AV) (p : Nat × Value), ws[k]? = some q → us[k]? = some u → parts[k]? = some p → place p.1 = some (q.1 * s + q.2, u.cells.length)) →
    (ws.zip us).foldlM (fun xs (y : (Nat × Nat) × AV) => wrElem xs y.1.1 y.1.2 y.2.cells) xs = some xs' →
    ∃ c', Instr.fill place c parts = some c' ∧ Rows m s xs' c'
  | [], [], xs, xs', c, h, _, _, ws, hw, _, hf => by
    have : ws = [] := List.eq_nil_of_length_eq_zero (by simpa using hw)
    subst this
    simp at hf
    subst hf
    exact ⟨c, rfl, h⟩
  | u :: us, p :: parts, xs, xs', c, h, hl, hr, q :: ws, hw, hp, hf => by
    simp only [List.zip_cons_cons, List.foldlM_cons] at hf
    cases h1 : wrElem xs q.1 q.2 u.cells with
    | none => simp [h1] at hf
    | some xs1 =>
      simp only [h1, Option.bind_eq_bind, Option.bind_some] at hf
      obtain ⟨r1, r2⟩ := hr 0 u p rfl rfl
      have hpl := hp 0 q u p rfl rfl rfl
      have hcr := r1.cells
      have hsz : p.2.cells.size = u.cells.length := hcr.1.symm
      have hfit : q.1 * s + q.2 + p.2.cells.size ≤ c.size := by
        unfold wrElem at h1
        cases he : xs[q.1]? with
        | none => simp [he] at h1
        | some e =>
          simp only [he] at h1
          split at h1
          · have hes := h.len e (List.mem_of_getElem? he)
            have hlt := (List.getElem?_eq_some_iff.1 he).1
            rw [h.size, hsz]
            have : (q.1 + 1) * s ≤ xs.length * s := Nat.mul_le_mul_right s hlt
            rw [Nat.add_mul, Nat.one_mul] at this
            omega
          · cases h1
      have hwr := fold_wr (q.1 * s + q.2) p.2.cells.toList 0 c (by simpa using hfit)
      have hrow := h.write h1 (vs := p.2.cells.toList) (by simp [hsz]) (r1.cellsOne r2) (fun k x v hx hv => hcr.2 k x v hx (by simpa using hv)) hwr
      obtain ⟨c', h2, h3⟩ := fill_rows place us parts xs1 xs' _ hrow (by simpa using hl) (fun k u p a b => hr (k + 1) u p (by simpa using a) (by simpa using b)) ws (by simpa using hw)
        (fun k q u p a b d => hp (k + 1) q u p (by simpa using a) (by simpa using b) (by simpa using d)) hf
      refine ⟨c', ?_, h3⟩
      obtain ⟨pi, pv⟩ := p
      simp only [Instr.fill, hpl]
      simp only at hsz hfit
      rw [if_neg (by simp [hsz]; omega)]
      rw [← h2]
      congr 1
      rw [← Array.foldl_toList, Array.toList_zipIdx]
  | [], _ :: _, _, _, _, _, hl, _, _, _, _, _ => by simp at hl
  | _ :: _, [], _, _, _, _, hl, _, _, _, _, _ => by simp at hl
  | _ :: _, _ :: _, _, _, _, _, _, _, [], hw, _, _ => by simp at hw
end Abs

/- Abs9: struct literals; interfaces, functions, strings; slices of slices; equality of structs. -/
namespace Abs
open Go

def kPartsB (places : List (Nat × Nat)) : List (Nat × Operand) → List (Nat × Nat) → List Opd → Bool
  | [], [], [] => true
  | (i, X) :: parts, q :: ps, y :: ys => (match places[i]? with | some r => r == q | none => false) && opdOk X y && kPartsB places parts ps ys
  | _, _, _ => false
def kBuild (P : Program) (zs : List AV) (ps : List (Nat × Nat)) : Op → List Opd → Bool
  | .build t parts, ys => (match P.info? t, P.underlying t with
    | some it, some (.struct fs) => (match it.zero, fs.toList.mapM (fun f => (P.info? f.type).map fun i => (f.offset, i.size)) with
      | some z, some places => scalarsOk z.cells.toList zs && kPartsB places parts.toList ps ys
      | _, _ => false)
    | _, _ => false)
  | _, _ => false

theorem buildV_fold : ∀ (ps : List (Nat × Nat)) (vs : List AV) (cs cs' : List AV), buildV cs ps vs = some cs' →
    ps.length = vs.length ∧ (∀ (k : Nat) (q : Nat × Nat) (v : AV), ps[k]? = some q → vs[k]? = some v → v.fit = true ∧ q.2 = v.cells.length) ∧
    (((ps.map fun q => ((0, q.1) : Nat × Nat))).zip vs).foldlM (fun xs (y : (Nat × Nat) × AV) => wrElem xs y.1.1 y.1.2 y.2.cells) [cs] = some [cs']
  | [], [], cs, cs', h => by
    simp [buildV] at h
    subst h
    exact ⟨rfl, fun k q v h => by simp at h, rfl⟩
  | (off, n) :: ps, v :: vs, cs, cs', h => by
    simp only [buildV] at h
    split at h
    · rename_i hc
      obtain ⟨h1, h2, h3⟩ := hc
      subst h1
      obtain ⟨e1, e2, e3⟩ := buildV_fold ps vs _ cs' h
      refine ⟨by simp [e1], fun k q u hq hu => ?_, ?_⟩
      · cases k with
        | zero => simp at hq hu; subst hq; subst hu; exact ⟨h3, rfl⟩
        | succ k => simp at hq hu; exact e2 k q u hq hu
      · simp only [List.map_cons, List.zip_cons_cons, List.foldlM_cons]
        have : wrElem [cs] 0 off v.cells = some [cs.take off ++ v.cells ++ cs.drop (off + v.cells.length)] := by
          simp [wrElem, h2]
        rw [this]
        exact e3
    · cases h
  | [], _ :: _, _, _, h => by simp [buildV] at h
  | _ :: _, [], _, _, h => by simp [buildV] at h

theorem kPartsB_spec {places : List (Nat × Nat)} : ∀ {parts : List (Nat × Operand)} {ps : List (Nat × Nat)} {ys : List Opd}, kPartsB places parts ps ys = true →
    Opds (parts.map (·.2)) ys = true ∧ parts.length = ps.length ∧ ∀ (k : Nat) (p : Nat × Operand) (q : Nat × Nat), parts[k]? = some p → ps[k]? = some q → places[p.1]? = some q
  | [], [], [], _ => ⟨rfl, rfl, fun k p q h => by simp at h⟩
  | (i, X) :: parts, q :: ps, y :: ys, h => by
    simp only [kPartsB, Bool.and_eq_true] at h
    obtain ⟨⟨h1, h2⟩, h3⟩ := h
    obtain ⟨e1, e2, e3⟩ := kPartsB_spec h3
    refine ⟨by simp [Opds, h2, e1], by simp [e2], fun k p q' hp hq => ?_⟩
    cases k with
    | zero =>
      simp at hp hq
      subst hp; subst hq
      split at h1
      · rename_i r hr; rw [hr]; rw [eq_of_beq h1]
      · cases h1
    | succ k => simp at hp hq; exact e3 k p q' hp hq
  | [], [], _ :: _, h => by simp [kPartsB] at h
  | [], _ :: _, _, h => by simp [kPartsB] at h
  | _ :: _, [], _, h => by simp [kPartsB] at h
  | _ :: _, _ :: _, [], h => by simp [kPartsB] at h

section
variable {P : Program} {N : Nat} {E : Entry} {m : Mem} {own : Nat → Option Own} {L : Nat → Option (Nat × Nat)} {s : ASt} {a : Act} {w : World}

/-- Operands that can be stored, against the values that the model puts into the parts. -/
theorem parts_rel (S : Sim N E m own L s a w) {parts : List (Nat × Operand)} {ys : List Opd} {vs : List AV} (ho : Opds (parts.map (·.2)) ys = true) (hx : s.evs ys = some vs) :
    vs.length = (parts.map fun (y : Nat × Operand) => (y.1, a.eval y.2)).length ∧
    ∀ (k : Nat) (u : AV) (p : Nat × Value), vs[k]? = some u → (parts.map fun (y : Nat × Operand) => (y.1, a.eval y.2))[k]? = some p → u.fit = true → VRel m u p.2 := by
  obtain ⟨h1, h2⟩ := evs_sound S ho hx
  refine ⟨by simpa using h1, fun k u p hu hp hf => ?_⟩
  rw [List.getElem?_map] at hp
  cases hk : parts[k]? with
  | none => simp [hk] at hp
  | some q =>
    simp [hk] at hp
    subst hp
    have hpl : u.plain = true := by cases u <;> first | rfl | simp [AV.fit, AV.one] at hf
    exact (h2 k u q.2 hu (by simp [hk])).1.toV hpl

theorem q_build {o : Oper} {x : List Opd} {zs : List AV} {ps : List (Nat × Nat)} {vs cs : List AV} (S : Sim N E m own L s a w) (hk : kBuild P zs ps o.op x = true) (hx : s.evs x = some vs)
    (hv : buildV zs ps vs = some cs) : Quiet P o a w m L s (.agg cs) := by
  unfold kBuild at hk
  split at hk
  · rename_i t parts ho
    split at hk
    · rename_i it fs hit hu
      split at hk
      · rename_i z places hz hpl
        simp only [Bool.and_eq_true] at hk
        obtain ⟨hzs, hparts⟩ := hk
        obtain ⟨p1, p2, p3⟩ := kPartsB_spec hparts
        obtain ⟨b1, b2, b3⟩ := buildV_fold ps vs zs cs hv
        obtain ⟨r1, r2⟩ := parts_rel S p1 hx
        obtain ⟨z1, z2, z3⟩ := scalarsOk_rel m hzs
        have hrow : Rows m zs.length [zs] z.cells := Rows.one ⟨by simpa using z1, fun i c cv h1 h2 => z3 i c cv h1 (by simpa using h2)⟩ z2
        obtain ⟨c', f1, f2⟩ := fill_rows (m := m) (fun i => places.toArray[i]?) vs (parts.toList.map fun (y : Nat × Operand) => (y.1, a.eval y.2)) [zs] [cs] z.cells hrow r1
          (fun k u p hu hp => by
            have hlt : k < ps.length := by rw [b1]; exact (List.getElem?_eq_some_iff.1 hu).1
            have hfit := (b2 k ps[k] u (List.getElem?_eq_getElem hlt) hu).1
            exact ⟨r2 k u p hu hp hfit, hfit⟩)
          (ps.map fun q => (0, q.1)) (by simp [b1])
          (fun k q u p hq hu hp => by
            rw [List.getElem?_map] at hq hp
            cases hk1 : ps[k]? with
            | none => simp [hk1] at hq
            | some q0 =>
              cases hk2 : parts.toList[k]? with
              | none => simp [hk2] at hp
              | some p0 =>
                simp [hk1] at hq
                simp [hk2] at hp
                subst hq; subst hp
                have h3 := p3 k p0 q0 hk2 hk1
                have h4 := (b2 k q0 u hk1 hu).2
                show places.toArray[p0.1]? = _
                rw [List.getElem?_toArray, h3, ← h4, Nat.zero_mul, Nat.zero_add])
          b3
        obtain ⟨v1, v2⟩ := Rows.toVRels f2
        refine Quiet.plain (cv := .agg c') ?_ (.agg v1.1 v2 v1.2)
        have hb : P.built t (parts.map fun (i, x) => (i, a.eval x)).toList = some c' := by
          unfold Program.built
          simp only [hit, hu, hz, hpl]
          rw [Array.toList_map]
          exact f1
        unfold Yld execOp
        simp only [ho]
        simp only [Sem.run_bind, run_build w t _ c' hb, Result.andThen_ok]
        rfl
      · cases hk
    · cases hk
  · cases hk

theorem q_mkf {o : Oper} {x : List Opd} {g n : Nat} {vs : List AV} (S : Sim N E m own L s a w) (hk : kMkf g n o.op x = true) (hx : s.evs x = some vs) (hp : vs.all AV.plain = true) :
    Quiet P o a w m L s (.fn g (vs.take n) (vs.drop n)) := by
  unfold kMkf at hk
  split at hk
  · rename_i ys f first cap ho
    simp only [Bool.and_eq_true, beq_iff_eq] at hk
    obtain ⟨⟨rfl, hn⟩, hX⟩ := hk
    obtain ⟨h1, h2⟩ := evs_sound S hX hx
    have hpl : ∀ (i : Nat) (v : AV), vs[i]? = some v → v.plain = true := fun i v hi => List.all_eq_true.1 hp v (List.mem_of_getElem? hi)
    simp only [List.length_append, Array.length_toList] at h1
    refine Quiet.plain (cv := .func (.func f) (first.map a.eval) (cap.map a.eval)) (by simp [Yld, execOp, ho, Instr.makeFunc]) (.fn ?_ ?_ (fun i c cv hc hcv => ?_) (fun i c cv hc hcv => ?_))
    · simp; omega
    · simp; omega
    · rw [List.getElem?_take] at hc
      split at hc
      · rename_i hlt
        rw [Array.getElem?_map] at hcv
        cases hf : first[i]? with
        | none => simp [hf] at hcv
        | some A =>
          simp [hf] at hcv
          subst hcv
          refine (h2 i c A hc ?_).1.toV (hpl i c hc)
          rw [List.getElem?_append_left (by simp; omega), Array.getElem?_toList]
          exact hf
      · cases hc
    · rw [List.getElem?_drop] at hc
      rw [Array.getElem?_map] at hcv
      cases hf : cap[i]? with
      | none => simp [hf] at hcv
      | some A =>
        simp [hf] at hcv
        subst hcv
        refine (h2 (n + i) c A hc ?_).1.toV (hpl _ c hc)
        rw [List.getElem?_append_right (by simp; omega), Array.getElem?_toList]
        rw [← hf]
        congr 1
        simp
        omega
  · cases hk

theorem q_mki {o : Oper} {x : List Opd} {t : Nat} {v : AV} (S : Sim N E m own L s a w) (hk : kMki P t o.op x = true) (hx : s.evs x = some [v]) (hp : v.plain = true) : Quiet P o a w m L s (.ifc t v) := by
  unfold kMki at hk
  split at hk
  · rename_i t' X y ho
    simp only [Bool.and_eq_true, beq_iff_eq] at hk
    obtain ⟨⟨rfl, hX⟩, ht⟩ := hk
    obtain ⟨u, h1, h2⟩ := evs_one hx
    injection h2 with h2
    subst h2
    have r := (ev_sound S hX h1).toV hp
    refine Quiet.plain (cv := .iface t' (a.eval X)) ?_ (.ifc r)
    unfold Yld execOp
    simp only [ho]
    cases hu : P.underlying t' with
    | none => simp [hu] at ht
    | some d =>
      simp only [Instr.makeInterface, Sem.run_bind, run_underlying hu, Result.andThen_ok]
      cases d <;> first | rfl | simp [hu] at ht
  · cases hk

theorem q_cat {o : Oper} {x : List Opd} {p q : ByteArray} (S : Sim N E m own L s a w) (hk : kCat o.op x = true) (hx : s.evs x = some [.str p, .str q]) (hsz : p.size + q.size ≤ 9223372036854775807) : Quiet P o a w m L s (.str (p ++ q)) := by
  unfold kCat at hk
  split at hk
  · rename_i t X Y t' x' y' ho
    simp only [Bool.and_eq_true] at hk
    obtain ⟨hX, hY⟩ := hk
    obtain ⟨u', v', h1, h2, h3⟩ := evs_two hx
    injection h3 with h3 h4; injection h4 with h4 _
    subst h3; subst h4
    have ru := rel_str (ev_sound S hX h1)
    have rv := rel_str (ev_sound S hY h2)
    refine Quiet.plain (cv := .string (p ++ q)) ?_ (.str _)
    unfold Yld execOp
    simp only [ho, ru, rv]
    have hlt : ¬ (((p.size + q.size : Nat) : Int) > IntKind.i64.max) := by rw [IntKind.max_i64]; omega
    simp only [Sem.run_bind, eqGuard_at_string, Sem.run_pure, Result.andThen_ok, binOp, Op.stringOp, if_neg hlt]
  · cases hk
end
end Abs

/- Abs10: slices of slices and of strings; equality of structs. -/
namespace Abs
open Go

def optOpds (lo hi mx : Bool) (l h m : Option Operand) (ys : List Opd) : Bool :=
  l.isSome == lo && h.isSome == hi && m.isSome == mx && Opds (l.toList ++ h.toList ++ m.toList) ys
def kSlc (P : Program) (sz : Nat) (lo hi mx : Bool) : Op → List Opd → Bool
  | .slice t x l h m, y :: ys => opdOk x y && optOpds lo hi mx l h m ys && (match P.underlying t with
    | some (.slice e) => (match P.info? e with | some i => i.size == sz | none => false)
    | _ => false)
  | _, _ => false
def kSlcs (P : Program) (lo hi : Bool) : Op → List Opd → Bool
  | .slice t x l h m, y :: ys => opdOk x y && optOpds lo hi false l h m ys && (match P.underlying t with
    | some .string => true
    | _ => false)
  | _, _ => false

theorem chkB_spec {n : Nat} {l h : Int} {l' h' : Nat} {om : Option Nat} (hb : chkB n l h = some (l', h', om)) : l = l' ∧ h = h' ∧ l' ≤ h' ∧ h' ≤ n ∧ om = none := by
  unfold chkB at hb
  split at hb
  · rename_i hc
    obtain ⟨h1, h2, h3⟩ := hc
    injection hb with hb; injection hb with e1 hb; injection hb with e2 e3
    subst e1; subst e2; subst e3
    exact ⟨by omega, by omega, by omega, by omega, rfl⟩
  · cases hb
theorem chkB3_spec {n : Nat} {l h m : Int} {l' h' : Nat} {om : Option Nat} (hb : chkB3 n l h m = some (l', h', om)) : l = l' ∧ h = h' ∧ l' ≤ h' ∧ h' ≤ n ∧ ∃ x : Nat, m = x ∧ om = some x ∧ h' ≤ x ∧ x ≤ n := by
  unfold chkB3 at hb
  split at hb
  · rename_i hc
    obtain ⟨h1, h2, h3, h4⟩ := hc
    injection hb with hb; injection hb with e1 hb; injection hb with e2 e3
    subst e1; subst e2; subst e3
    exact ⟨by omega, by omega, by omega, by omega, m.toNat, by omega, rfl, by omega, by omega⟩
  · cases hb

section
variable {P : Program} {N : Nat} {E : Entry} {m : Mem} {own : Nat → Option Own} {L : Nat → Option (Nat × Nat)} {s : ASt} {a : Act} {w : World}

/-- The bounds that the model reckons, where the abstract ones fit. -/
theorem bounds_run (S : Sim N E m own L s a w) (isSlice : Bool) (n cap : Nat) (hc : n ≤ cap) {lo hi mx : Bool} {X Y Z : Option Operand} {ys : List Opd} {vs : List AV} {l h : Nat} {om : Option Nat}
    (ho : optOpds lo hi mx X Y Z ys = true) (hx : s.evs ys = some vs) (hb : bounds3 n lo hi mx vs = some (l, h, om)) :
    (Instr.sliceBounds isSlice n cap (X.map a.eval) (Y.map a.eval) (Z.map a.eval)).run P w = .ok (l, h, om.getD cap) w ∧ l ≤ h ∧ h ≤ n ∧ om.isSome = mx ∧ ∀ x, om = some x → h ≤ x ∧ x ≤ n := by
  unfold optOpds at ho
  simp only [Bool.and_eq_true, beq_iff_eq] at ho
  obtain ⟨⟨⟨e1, e2⟩, e3⟩, ho⟩ := ho
  obtain ⟨r1, r2⟩ := evs_sound S ho hx
  have fin : ∀ (z y : Nat) (code : BoundsCode) (k : IntKind), z ≤ y → (Instr.sliceBound (.int k z) y code).run P w = .ok z w := fun z y code k h1 => by
    simp [Instr.sliceBound, asIntOf]
    omega
  unfold bounds3 at hb
  split at hb
  · cases X <;> cases Y <;> cases Z <;> simp at e1 e2 e3
    injection hb with hb; injection hb with f1 hb; injection hb with f2 f3
    subst f1; subst f2; subst f3
    exact ⟨by simp [Instr.sliceBounds], by omega, by omega, rfl, fun x h => by cases h⟩
  · cases X <;> cases Y <;> cases Z <;> simp at e1 e2 e3
    obtain ⟨rfl, f2, f3, f4, rfl⟩ := chkB_spec hb
    have a1 := rel_int (r2 0 _ _ rfl rfl).1
    have : h = n := by omega
    subst this
    exact ⟨by simp [Instr.sliceBounds, a1, fin _ _ _ _ f3], f3, f4, rfl, fun x h => by cases h⟩
  · cases X <;> cases Y <;> cases Z <;> simp at e1 e2 e3
    obtain ⟨f1, rfl, f3, f4, rfl⟩ := chkB_spec hb
    have a1 := rel_int (r2 0 _ _ rfl rfl).1
    have : l = 0 := by omega
    subst this
    exact ⟨by simp [Instr.sliceBounds, a1, fin h cap _ _ (by omega)], f3, f4, rfl, fun x h => by cases h⟩
  · cases X <;> cases Y <;> cases Z <;> simp at e1 e2 e3
    obtain ⟨rfl, rfl, f3, f4, rfl⟩ := chkB_spec hb
    have a1 := rel_int (r2 0 _ _ rfl rfl).1
    have a2 := rel_int (r2 1 _ _ rfl rfl).1
    exact ⟨by simp [Instr.sliceBounds, a1, a2, fin h cap _ _ (by omega : h ≤ cap), fin _ _ _ _ f3], f3, f4, rfl, fun x h => by cases h⟩
  · cases X <;> cases Y <;> cases Z <;> simp at e1 e2 e3
    obtain ⟨f1, rfl, f3, f4, x, rfl, rfl, f6, f7⟩ := chkB3_spec hb
    have a1 := rel_int (r2 0 _ _ rfl rfl).1
    have a2 := rel_int (r2 1 _ _ rfl rfl).1
    have : l = 0 := by omega
    subst this
    exact ⟨by simp [Instr.sliceBounds, a1, a2, fin x cap _ _ (by omega : x ≤ cap), fin _ _ _ _ f6], f3, f4, rfl, fun y h => by injection h with h; subst h; exact ⟨f6, f7⟩⟩
  · cases X <;> cases Y <;> cases Z <;> simp at e1 e2 e3
    obtain ⟨rfl, rfl, f3, f4, x, rfl, rfl, f6, f7⟩ := chkB3_spec hb
    have a1 := rel_int (r2 0 _ _ rfl rfl).1
    have a2 := rel_int (r2 1 _ _ rfl rfl).1
    have a3 := rel_int (r2 2 _ _ rfl rfl).1
    exact ⟨by simp [Instr.sliceBounds, a1, a2, a3, fin x cap _ _ (by omega : x ≤ cap), fin _ _ _ _ f6, fin _ _ _ _ f3], f3, f4, rfl, fun y h => by injection h with h; subst h; exact ⟨f6, f7⟩⟩
  · cases hb

theorem sl_cut {sz : Nat} {xs : List (List AV)} {t' : Tag} {b o cap' : Nat} {f : Nat → Value} (hs : ∀ e ∈ xs, e.length = sz)
    (h : ∀ (i : Nat) (e : List AV) (j : Nat) (c : AV), xs[i]? = some e → e[j]? = some c → m.imm b (o + (i * sz + j)) = some (f (i * sz + j)) ∧ c.one = true)
    (hv : ∀ (i : Nat) (e : List AV) (j : Nat) (c : AV), xs[i]? = some e → e[j]? = some c → VRel m c (f (i * sz + j)))
    {l hh : Nat} (h1 : l ≤ hh) (h2 : hh ≤ xs.length) (hcap : hh - l ≤ cap') {ad : Addr} (had : ad = ⟨b, o + l * sz, none⟩ ∨ (hh = l ∧ ∃ b o, ad = ⟨b, o, none⟩))
    (ht : t' = .no ∨ (t' = .full ∧ cap' = hh - l)) : VRel m (.sl sz ((xs.take hh).drop l) t') (.slice (some ad) (hh - l) cap') := by
  have hlen : ((xs.take hh).drop l).length = hh - l := by simp; omega
  have htag : ∀ b o, TagOk m t' b o ((xs.take hh).drop l).length cap' sz := fun b o => by
    rcases ht with rfl | ⟨rfl, e⟩
    · trivial
    · exact e.trans hlen.symm
  have hidx : ∀ i e, ((xs.take hh).drop l)[i]? = some e → xs[l + i]? = some e := fun i e hi => by
    rw [List.getElem?_drop, List.getElem?_take] at hi
    split at hi
    · exact hi
    · cases hi
  rw [← hlen]
  rcases had with rfl | ⟨e, b', o', rfl⟩
  · refine .sl (fun j => f (l * sz + j)) (fun e he => hs e (List.mem_of_mem_take (List.mem_of_mem_drop he))) (by omega) (fun i e j c hi hj => ?_) (fun i e j c hi hj => ?_) (htag _ _)
    · have := h (l + i) e j c (hidx i e hi) hj
      rw [Nat.add_mul] at this
      rw [show o + l * sz + (i * sz + j) = o + (l * sz + i * sz + j) from by omega, show l * sz + (i * sz + j) = l * sz + i * sz + j from by omega]
      exact this
    · have := hv (l + i) e j c (hidx i e hi) hj
      rw [Nat.add_mul] at this
      rw [show l * sz + (i * sz + j) = l * sz + i * sz + j from by omega]
      exact this
  · have hnil : (xs.take hh).drop l = [] := List.eq_nil_of_length_eq_zero (by omega)
    refine .sl (fun _ => undef) (fun e he => hs e (List.mem_of_mem_take (List.mem_of_mem_drop he))) (by omega) (fun i e j c hi hj => ?_) (fun i e j c hi hj => ?_) (htag _ _)
    · rw [hnil] at hi; cases hi
    · rw [hnil] at hi; cases hi

theorem q_slc {o : Oper} {x : List Opd} {sz : Nat} {lo hi mx : Bool} {p v : AV} {vs : List AV} (S : Sim N E m own L s a w) (hk : kSlc P sz lo hi mx o.op x = true) (hx : s.evs x = some (p :: vs)) (hv : slcV sz lo hi mx p vs = some v) :
    Quiet P o a w m L s v := by
  unfold kSlc at hk
  split at hk
  · rename_i t X l h mm y ys ho
    simp only [Bool.and_eq_true] at hk
    obtain ⟨⟨hX, hop⟩, ht⟩ := hk
    simp only [ASt.evs] at hx
    cases hy : s.ev y with
    | none => simp [hy] at hx
    | some u =>
      cases hys : s.evs ys with
      | none => simp [hy, hys] at hx
      | some us =>
        simp [hy, hys] at hx
        obtain ⟨rfl, rfl⟩ := hx
        have r := ev_sound S hX hy
        split at ht
        · rename_i e hu
          have hie : ∃ ie, P.info? e = some ie ∧ ie.size = sz := by
            split at ht
            · rename_i ie hie; exact ⟨ie, hie, by simpa using ht⟩
            · cases ht
          obtain ⟨ie, hie, hsz⟩ := hie
          have key : ∀ ad n cap l' h' om, a.eval X = .slice ad n cap → n ≤ cap → bounds3 n lo hi mx us = some (l', h', om) →
              Yld P o a w (.slice (if om.getD cap = l' then ad else ad.map (·.add (l' * sz))) (h' - l') (om.getD cap - l')) ∧ l' ≤ h' ∧ h' ≤ n ∧ om.isSome = mx ∧ ∀ x, om = some x → h' ≤ x ∧ x ≤ n := fun ad n cap l' h' om he hc hb => by
            obtain ⟨g1, g2⟩ := bounds_run (P := P) S true n cap hc hop hys hb
            refine ⟨?_, g2⟩
            unfold Yld execOp
            simp only [ho, he]
            simp [Instr.sliceAt, Instr.slice, run_underlying hu, g1, Go.sizeOf, typeInfo, hie, hsz]
          unfold slcV at hv
          split at hv
          · generalize hcx : a.eval X = cx at r
            cases r with
            | plain r =>
              cases r
              split at hv
              · rename_i q hb
                obtain ⟨l', h', om⟩ := q
                injection hv with hv
                subst hv
                obtain ⟨g1, g2, g3, g4, g5⟩ := key none 0 0 l' h' om hcx (Nat.le_refl _) hb
                have e1 : h' = 0 := by omega
                have e2 : l' = 0 := by omega
                subst e1; subst e2
                have e3 : om.getD 0 = 0 := by
                  cases om with
                  | none => rfl
                  | some x => have := g5 x rfl; simp; omega
                rw [e3] at g1
                exact Quiet.plain g1 .nils
              · cases hv
          · rename_i sz' xs tg
            by_cases hszz : sz' = sz
            case neg => rw [if_pos hszz] at hv; cases hv
            subst hszz
            rw [if_neg (by simp)] at hv
            generalize hcx : a.eval X = cx at r
            cases r with
            | plain r =>
              cases r with
              | @sl _ _ _ b q cap f hs hcap hh hr htag =>
                have cut : ∀ l' h' om, bounds3 xs.length lo hi mx us = some (l', h', om) → ∀ t' : Tag, (t' = Tag.no ∨ (t' = Tag.full ∧ om.getD cap - l' = h' - l')) → Quiet P o a w m L s (.sl sz' ((xs.take h').drop l') t') := fun l' h' om hb t' ht' => by
                  obtain ⟨g1, g2, g3, g4, g5⟩ := key _ _ _ l' h' om hcx hcap hb
                  have hge : h' ≤ om.getD cap := by
                    cases om with
                    | none => simp; omega
                    | some x => exact (g5 x rfl).1
                  have hfin : ∀ ad : Addr, (ad = ⟨b, q + l' * sz', none⟩ ∨ (h' = l' ∧ ∃ b o, ad = ⟨b, o, none⟩)) → VRel m (.sl sz' ((xs.take h').drop l') t') (.slice (some ad) (h' - l') (om.getD cap - l')) := fun ad had =>
                    sl_cut hs hh hr g2 g3 (by omega) had ht'
                  split at g1
                  · rename_i e
                    exact Quiet.plain g1 (hfin _ (.inr ⟨by omega, _, _, rfl⟩))
                  · refine Quiet.plain g1 (hfin _ ?_)
                    exact .inl (Addr.add_lit b q (l' * sz'))
                split at hv
                · rename_i l' h' mm' hb
                  split at hv
                  · rename_i e
                    subst e
                    injection hv with hv
                    subst hv
                    exact cut l' _ _ hb _ (.inr ⟨rfl, rfl⟩)
                  · cases hv
                · rename_i l' h' hb
                  injection hv with hv
                  subst hv
                  by_cases hlh : (lo || hi) = true
                  · rw [if_pos hlh]
                    exact cut l' h' none hb _ (.inl rfl)
                  · rw [if_neg hlh]
                    have hlo : lo = false ∧ hi = false := by cases lo <;> cases hi <;> simp at hlh ⊢
                    obtain ⟨rfl, rfl⟩ := hlo
                    obtain ⟨g1, g2, g3, g4, g5⟩ := key _ _ _ l' h' none hcx hcap hb
                    have hmx : mx = false := by simpa using g4.symm
                    subst hmx
                    cases us with
                    | cons u us => simp [bounds3] at hb
                    | nil =>
                      simp only [bounds3] at hb
                      injection hb with hb; injection hb with e1 hb; injection hb with e2 e3
                      subst e1; subst e2
                      simp only [Option.getD_none, Nat.zero_mul, Nat.sub_zero] at g1
                      have e4 : (if cap = 0 then some (⟨b, q, none⟩ : Addr) else Option.map (fun x : Addr => x.add 0) (some (⟨b, q, none⟩ : Addr))) = some (⟨b, q, none⟩ : Addr) := by
                        split <;> rfl
                      rw [e4] at g1
                      rw [List.take_length, List.drop_zero]
                      exact Quiet.plain g1 (.sl f hs hcap hh hr htag)
                · cases hv
              | sl0 ad htg =>
                have cut : ∀ l' h' om, bounds3 0 lo hi mx us = some (l', h', om) → ∀ t' : Tag, (t' = Tag.full ∨ t' = Tag.no) → Quiet P o a w m L s (.sl sz' [] t') := fun l' h' om hb t' ht' => by
                  obtain ⟨g1, g2, g3, g4, g5⟩ := key _ _ _ l' h' om hcx (Nat.le_refl _) hb
                  have e1 : h' = 0 := by omega
                  have e2 : l' = 0 := by omega
                  subst e1; subst e2
                  have e3 : om.getD 0 = 0 := by
                    cases om with
                    | none => rfl
                    | some x => have := g5 x rfl; simp; omega
                  rw [e3] at g1
                  exact Quiet.plain g1 (.sl0 ad ht')
                simp only [List.take_nil, List.drop_nil, List.length_nil] at hv
                split at hv
                · rename_i l' h' mm' hb
                  split at hv
                  · injection hv with hv
                    subst hv
                    exact cut _ _ _ hb _ (.inl rfl)
                  · cases hv
                · rename_i l' h' hb
                  injection hv with hv
                  subst hv
                  refine cut _ _ _ hb _ ?_
                  split
                  · exact .inr rfl
                  · exact htg
                · cases hv
          · rename_i lh sz' off len c
            by_cases hszz : sz' = sz
            case neg => rw [if_pos hszz] at hv; cases hv
            subst hszz
            rw [if_neg (by simp)] at hv
            generalize hcx : a.eval X = cx at r
            cases r with
            | plain r =>
              cases r with
              | @hm _ b _ _ _ _ h hcap =>
                split at hv
                · rename_i l' h' hb
                  cases mx with
                  | true => simp at hv
                  | false =>
                    simp only [Bool.false_eq_true, if_false] at hv
                    injection hv with hv
                    subst hv
                    obtain ⟨g1, g2, g3, g4, g5⟩ := key _ _ _ l' h' none hcx hcap hb
                    simp only [Option.getD_none] at g1
                    refine Quiet.plain g1 ?_
                    by_cases e : c = l'
                    · rw [if_pos e, if_pos e]
                      exact .hm off _ _ h (by omega)
                    · rw [if_neg e, if_neg e]
                      have e2 : (some (⟨b, off * sz', none⟩ : Addr)).map (·.add (l' * sz')) = some ⟨b, (off + l') * sz', none⟩ := by
                        rw [Nat.add_mul, Option.map_some, Addr.add_lit]
                      rw [e2]
                      exact .hm (off + l') _ _ h (by omega)
                · cases hv
          · cases hv
        · cases ht
  · cases hk

theorem q_slcs {o : Oper} {x : List Opd} {lo hi : Bool} {p : ByteArray} {v : AV} {vs : List AV} (S : Sim N E m own L s a w) (hk : kSlcs P lo hi o.op x = true) (hx : s.evs x = some (.str p :: vs)) (hv : slcsV lo hi (.str p) vs = some v) :
    Quiet P o a w m L s v := by
  unfold kSlcs at hk
  split at hk
  · rename_i t X l h mm y ys ho
    simp only [Bool.and_eq_true] at hk
    obtain ⟨⟨hX, hop⟩, ht⟩ := hk
    simp only [ASt.evs] at hx
    cases hy : s.ev y with
    | none => simp [hy] at hx
    | some u =>
      cases hys : s.evs ys with
      | none => simp [hy, hys] at hx
      | some us =>
        simp [hy, hys] at hx
        obtain ⟨rfl, rfl⟩ := hx
        have r := rel_str (ev_sound S hX hy)
        have hu : P.underlying t = some .string := by
          split at ht
          · assumption
          · cases ht
        simp only [slcsV] at hv
        split at hv
        · rename_i l' h' om hb
          injection hv with hv
          subst hv
          obtain ⟨g1, g2, g3, g4, g5⟩ := bounds_run (P := P) S false p.size p.size (Nat.le_refl _) hop hys hb
          have hm : mm = none := by
            unfold optOpds at hop
            simp only [Bool.and_eq_true, beq_iff_eq] at hop
            have := hop.1.2
            cases mm with
            | none => rfl
            | some _ => simp at this
          subst hm
          refine Quiet.plain (cv := .string (p.extract l' h')) ?_ (.str _)
          unfold Yld execOp
          simp only [ho, r]
          simp only [Option.map_none] at g1 ⊢
          simp [Instr.sliceAt, Instr.slice, run_underlying hu, g1]
        · cases hv
  · cases hk

end
end Abs

/- Abs11: equality of structs of plain cells. -/
namespace Abs
open Go

/-- The kinds of a type's cells, where they are plain (strings, bools, integers). -/
def flatFields (P : Program) (rec_ : TypeId → Option (List Nat)) : List Field → Nat → Option (List Nat)
  | [], _ => some []
  | f :: fs, off => match rec_ f.type, P.info? f.type with
    | some ks, some i => if f.name ≠ "_" ∧ f.offset = off ∧ i.size = ks.length then (flatFields P rec_ fs (off + ks.length)).map (ks ++ ·) else none
    | _, _ => none
def flatKinds (P : Program) : Nat → TypeId → Option (List Nat)
  | 0, _ => none
  | d + 1, t => match P.underlying t with
    | some .string => some [1]
    | some .bool => some [2]
    | some (.int k) => some [IntKindNo k]
    | some (.struct fs) => if P.stoodInHeld t then none else flatFields P (flatKinds P d) fs.toList 0
    | _ => none

def kEqs (P : Program) (neg : Bool) (ks : List Nat) : Op → List Opd → Bool
  | .binOp bo t x y _, [x', y'] => eqNe neg bo && opdOk x x' && opdOk y y' && (flatKinds P 8 t == some ks) && !P.eqGuardType P.depth t && (match P.underlying t with | some (.struct _) => true | _ => false)
  | _, _ => false

section
variable {P : Program} {N : Nat} {E : Entry} {m : Mem} {own : Nat → Option Own} {L : Nat → Option (Nat × Nat)} {s : ASt} {a : Act} {w : World}

def isStruct (P : Program) (t : TypeId) : Bool := match P.underlying t with | some (.struct _) => true | _ => false

/-- A value of a type against the cells. -/
def Shape (P : Program) (m : Mem) (t : TypeId) (us : List AV) (x : Value) : Prop :=
  if isStruct P t then ∃ ca, x = .agg ca ∧ VRels m us ca else ∃ c, us = [c] ∧ VRel m c x

theorem fieldsOf_eq {t : TypeId} {fs : Array Field} (h : P.underlying t = some (.struct fs)) : P.fieldsOf t = fs := by simp [Program.fieldsOf, h]

theorem kind_str {v : AV} (h : v.kindNo = 1) : ∃ x, v = .str x := by
  cases v <;> first | exact ⟨_, rfl⟩ | (simp [AV.kindNo] at h; done) | (rename_i k _; cases k <;> simp [AV.kindNo, IntKindNo] at h)
theorem kind_bool {v : AV} (h : v.kindNo = 2) : ∃ x, v = .bool x := by
  cases v <;> first | exact ⟨_, rfl⟩ | (simp [AV.kindNo] at h; done) | (rename_i k _; cases k <;> simp [AV.kindNo, IntKindNo] at h)
theorem kind_int {v : AV} {k : IntKind} (h : v.kindNo = IntKindNo k) : ∃ n, v = .int k n := by
  cases v <;> first
    | (cases k <;> simp [AV.kindNo, IntKindNo] at h; done)
    | (rename_i j n; refine ⟨n, ?_⟩; cases k <;> cases j <;> first | rfl | (simp [AV.kindNo, IntKindNo] at h))

open Classical in
theorem eq_flat : ∀ (d : Nat) (t : TypeId) (ks : List Nat), flatKinds P d t = some ks → ∀ (us vs : List AV) (x y : Value) (d' : Nat), us.map AV.kindNo = ks → vs.map AV.kindNo = ks →
    Shape P m t us x → Shape P m t vs y → (Op.equalIn (d' + d) t x y).run P w = .ok (decide (us = vs)) w
  | 0, t, ks, h => by simp [flatKinds] at h
  | d + 1, t, ks, h => by
    intro us vs x y d' hu hv sx sy
    simp only [flatKinds] at h
    have scalar : ∀ {k0 : Nat}, isStruct P t = false → ks = [k0] → ∃ c e, us = [c] ∧ vs = [e] ∧ VRel m c x ∧ VRel m e y ∧ c.kindNo = k0 ∧ e.kindNo = k0 := fun {k0} hs hk => by
      unfold Shape at sx sy
      simp only [hs, Bool.false_eq_true, if_false] at sx sy
      obtain ⟨c, rfl, h1⟩ := sx
      obtain ⟨e, rfl, h2⟩ := sy
      subst hk
      simp at hu hv
      exact ⟨c, e, rfl, rfl, h1, h2, hu, hv⟩
    split at h
    · rename_i ht
      injection h with h
      obtain ⟨c, e, rfl, rfl, h1, h2, h3, h4⟩ := scalar (by simp [isStruct, ht]) h.symm
      obtain ⟨p, rfl⟩ := kind_str h3
      obtain ⟨q, rfl⟩ := kind_str h4
      cases h1; cases h2
      rw [← Nat.add_assoc, run_equalIn_string w (d' + d) t p q ht, beq_str]
      congr 1
      simp
    · rename_i ht
      injection h with h
      obtain ⟨c, e, rfl, rfl, h1, h2, h3, h4⟩ := scalar (by simp [isStruct, ht]) h.symm
      obtain ⟨p, rfl⟩ := kind_bool h3
      obtain ⟨q, rfl⟩ := kind_bool h4
      cases h1; cases h2
      rw [← Nat.add_assoc, run_equalIn_bool' w (d' + d) t p q ht]
      congr 1
      cases p <;> cases q <;> simp
    · rename_i k ht
      injection h with h
      obtain ⟨c, e, rfl, rfl, h1, h2, h3, h4⟩ := scalar (by simp [isStruct, ht]) h.symm
      obtain ⟨p, rfl⟩ := kind_int h3
      obtain ⟨q, rfl⟩ := kind_int h4
      cases h1; cases h2
      rw [← Nat.add_assoc, run_equalIn_int w (d' + d) t k k p q ht]
      congr 1
      simp
      rfl
    · rename_i fs ht
      split at h
      · cases h
      · rename_i hst
        have hstruct : isStruct P t = true := by simp [isStruct, ht]
        unfold Shape at sx sy
        simp only [hstruct, if_true] at sx sy
        obtain ⟨ca, rfl, h1⟩ := sx
        obtain ⟨cb, rfl, h2⟩ := sy
        rw [← Nat.add_assoc, run_equalIn_agg w (d' + d) t ca cb (by rw [fieldsOf_eq ht]; exact ht) (by simpa using hst), fieldsOf_eq ht]
        have key : ∀ (fl : List Field) (off : Nat) (ks' : List Nat), flatFields P (flatKinds P d) fl off = some ks' → (us.drop off).map AV.kindNo = ks' → (vs.drop off).map AV.kindNo = ks' →
            (Op.eqFields (d' + d) ca cb fl).run P w = .ok (decide (us.drop off = vs.drop off)) w := by
          intro fl
          induction fl with
          | nil =>
            intro off ks' hf hu' hv'
            simp only [flatFields] at hf
            injection hf with hf
            subst hf
            rw [List.map_eq_nil_iff] at hu' hv'
            simp [Op.eqFields, hu', hv']
          | cons f fl ih =>
            intro off ks' hf hu' hv'
            simp only [flatFields] at hf
            split at hf
            · rename_i kf i hkf hi
              split at hf
              · rename_i hc
                obtain ⟨hname, hoff, hsz⟩ := hc
                cases hrest : flatFields P (flatKinds P d) fl (off + kf.length) with
                | none => simp [hrest] at hf
                | some kr =>
                  simp [hrest] at hf
                  subst hf
                  have hul : (us.drop off).length = kf.length + kr.length := by
                    have := congrArg List.length hu'
                    simpa using this
                  have hvl : (vs.drop off).length = kf.length + kr.length := by
                    have := congrArg List.length hv'
                    simpa using this
                  have hu1 : ((us.drop off).take kf.length).map AV.kindNo = kf := by rw [List.map_take, hu']; simp
                  have hv1 : ((vs.drop off).take kf.length).map AV.kindNo = kf := by rw [List.map_take, hv']; simp
                  have hu2 : (us.drop (off + kf.length)).map AV.kindNo = kr := by rw [← List.drop_drop, List.map_drop, hu']; simp
                  have hv2 : (vs.drop (off + kf.length)).map AV.kindNo = kr := by rw [← List.drop_drop, List.map_drop, hv']; simp
                  have part : ∀ (zs : List AV) (cz : Array Value), VRels m zs cz → (zs.drop off).length = kf.length + kr.length → ((zs.drop off).take kf.length).map AV.kindNo = kf →
                      ∃ z, (part f.type cz f.offset).run P w = .ok z w ∧ Shape P m f.type ((zs.drop off).take kf.length) z := fun zs cz hz hzl hzk => by
                    simp only [List.length_drop] at hzl
                    have hd : ∃ d0, d = d0 + 1 := by
                      cases d with
                      | zero => simp [flatKinds] at hkf
                      | succ d0 => exact ⟨d0, rfl⟩
                    obtain ⟨d0, rfl⟩ := hd
                    have hund : ∃ dd, P.underlying f.type = some dd ∧ ((∃ fs', dd = .struct fs') ∨ (isStruct P f.type = false ∧ (isAgg f.type).run P w = .ok false w ∧ kf.length = 1)) := by
                      simp only [flatKinds] at hkf
                      split at hkf
                      · rename_i hh; injection hkf with hkf; exact ⟨_, hh, .inr ⟨by simp [isStruct, hh], by simp [isAgg, run_underlying hh], by rw [← hkf]; rfl⟩⟩
                      · rename_i hh; injection hkf with hkf; exact ⟨_, hh, .inr ⟨by simp [isStruct, hh], by simp [isAgg, run_underlying hh], by rw [← hkf]; rfl⟩⟩
                      · rename_i hh; injection hkf with hkf; exact ⟨_, hh, .inr ⟨by simp [isStruct, hh], by simp [isAgg, run_underlying hh], by rw [← hkf]; rfl⟩⟩
                      · rename_i fs' hh; exact ⟨_, hh, .inl ⟨_, rfl⟩⟩
                      · cases hkf
                    obtain ⟨dd, hh, hcase⟩ := hund
                    rcases hcase with ⟨fs', rfl⟩ | ⟨hns, hag, hone⟩
                    · refine ⟨.agg (cz.extract off (off + kf.length)), by simp [Go.part, isAgg, run_underlying hh, Go.sizeOf, typeInfo, hi, hsz, hoff], ?_⟩
                      unfold Shape
                      rw [if_pos (by simp [isStruct, hh])]
                      refine ⟨_, rfl, ?_, fun i c cv hc hcv => ?_⟩
                      · simp [← hz.1]; omega
                      · rw [List.getElem?_take] at hc
                        split at hc
                        · rw [List.getElem?_drop] at hc
                          refine hz.2 _ c cv hc ?_
                          rw [Array.getElem?_extract] at hcv
                          split at hcv
                          · exact hcv
                          · cases hcv
                        · cases hc
                    · have hlt : off < cz.size := by rw [← hz.1]; omega
                      have hlt' : off < zs.length := by omega
                      refine ⟨cz[off], by simp [Go.part, hag, hoff, hlt], ?_⟩
                      unfold Shape
                      rw [if_neg (by simp [hns])]
                      refine ⟨zs[off], ?_, hz.2 off _ _ (List.getElem?_eq_getElem hlt') (Array.getElem?_eq_getElem hlt)⟩
                      rw [hone]
                      rw [List.drop_eq_getElem_cons hlt']
                      rfl
                  obtain ⟨z1, e1, s1⟩ := part us ca h1 hul hu1
                  obtain ⟨z2, e2, s2⟩ := part vs cb h2 hvl hv1
                  have heq := eq_flat d f.type kf hkf _ _ z1 z2 d' hu1 hv1 s1 s2
                  have hih := ih (off + kf.length) kr hrest hu2 hv2
                  simp only [Op.eqFields]
                  rw [if_pos hname]
                  simp only [Sem.run_bind, e1, e2, heq, Result.andThen_ok, Sem.run_ite]
                  by_cases hfirst : (us.drop off).take kf.length = (vs.drop off).take kf.length
                  · rw [if_neg (by simp [hfirst]), hih]
                    congr 1
                    rw [Bool.eq_iff_iff]
                    simp only [decide_eq_true_eq]
                    constructor
                    · intro h
                      rw [← List.take_append_drop kf.length (us.drop off), ← List.take_append_drop kf.length (vs.drop off), hfirst, List.drop_drop, List.drop_drop, h]
                    · intro h
                      rw [← List.drop_drop, ← List.drop_drop, h]
                  · rw [if_pos (by simp [hfirst])]
                    have hne : us.drop off ≠ vs.drop off := fun h => hfirst (by rw [h])
                    simp [hne]
              · cases hf
            · cases hf
        have := key fs.toList 0 ks h hu hv
        simpa using this
    · cases h

open Classical in
theorem q_eqs {o : Oper} {x : List Opd} {n : Bool} {ks : List Nat} {xs ys : List AV} {v : AV} (S : Sim N E m own L s a w) (hk : kEqs P n ks o.op x = true) (hx : s.evs x = some [.agg xs, .agg ys]) (hv : eqV n ks xs ys = some v) : Quiet P o a w m L s v := by
  unfold kEqs at hk
  split at hk
  · rename_i bo t X Y t' x' y' ho
    simp only [Bool.and_eq_true, beq_iff_eq, Bool.not_eq_true'] at hk
    obtain ⟨⟨⟨⟨⟨hb, hX⟩, hY⟩, hfl⟩, hg⟩, hst⟩ := hk
    obtain ⟨u', v', h1, h2, h3⟩ := evs_two hx
    injection h3 with h3 h4; injection h4 with h4 _
    subst h3; subst h4
    have ru := ev_sound S hX h1
    have rv := ev_sound S hY h2
    unfold eqV at hv
    split at hv
    · rename_i hkk
      obtain ⟨hk1, hk2⟩ := hkk
      injection hv with hv
      subst hv
      have hs : isStruct P t = true := by
        unfold isStruct
        split at hst
        · rfl
        · cases hst
      generalize hcx : a.eval X = cx at ru
      generalize hcy : a.eval Y = cy at rv
      cases ru with
      | plain ru =>
        cases rv with
        | plain rv =>
          cases ru with
          | @agg _ ca g1 g2 g3 =>
            cases rv with
            | @agg _ cb f1 f2 f3 =>
              have key := eq_flat (P := P) (m := m) (w := w) 8 t ks hfl xs ys (.agg ca) (.agg cb) 9992 hk1 hk2 (by unfold Shape; rw [if_pos hs]; exact ⟨_, rfl, g1, g3⟩) (by unfold Shape; rw [if_pos hs]; exact ⟨_, rfl, f1, f3⟩)
              refine Quiet.plain (cv := .bool (decide (xs = ys) != n)) ?_ (.bool _)
              unfold Yld execOp
              simp only [ho, hcx, hcy]
              cases bo <;> simp only [eqNe] at hb <;> first | (cases hb; done) | skip
              · have hn : n = false := by simpa using hb
                subst hn
                simp only [Sem.run_bind, run_eqGuard_agg w _ t X Y ca cb hg, Result.andThen_ok, run_eql_struct, key, Bool.bne_false]
                rfl
              · subst hb
                simp only [Sem.run_bind, run_eqGuard_agg w _ t X Y ca cb hg, Result.andThen_ok, run_neq_struct, key, Bool.bne_true]
                rfl
    · cases hv
  · cases hk
end
end Abs

/- Abs12: the instructions that lay new blocks: slice literals, variables, arrays, maps. -/
namespace Abs
open Go

theorem wp_value {P : Program} {o : Oper} {a : Act} {w w' : World} {K : Act → World → Prop} {Q : Exit → Act → World → Prop} {cv : Value}
    (h : (execOp a.eval o).run P w = .ok (.value cv) w') (hk : K (a.put o.dst cv) w') : o.wp P a w K Q := by
  unfold Oper.wp
  rw [h]
  exact hk
theorem wp_skipped {P : Program} {o : Oper} {a : Act} {w w' : World} {K : Act → World → Prop} {Q : Exit → Act → World → Prop}
    (h : (execOp a.eval o).run P w = .ok .skip w') (hk : K (a.put o.dst undef) w') : o.wp P a w K Q := by
  unfold Oper.wp
  rw [h]
  exact hk

/-- Where the results of an operation go. -/
def dstOk (N : Nat) (o : Oper) (dst : Option Nat) : Bool := o.dst == dst && dst.all (· < N)

section
variable {P : Program} {N : Nat} {E : Entry} {m : Mem} {own : Nat → Option Own} {L : Nat → Option (Nat × Nat)} {s : ASt} {a : Act} {w : World}

theorem put_size (a : Act) (d : Option Nat) (v : Value) : (a.put d v).tmps.size = a.tmps.size := by cases d <;> simp [Act.put]
theorem put_defers' (a : Act) (d : Option Nat) (v : Value) : (a.put d v).defers = a.defers := by cases d <;> rfl

/-- The end of every step: the new world, the new frame, the slot. -/
theorem Sim.step (S : Sim N E m own L s a w) {m' : Mem} {own' : Nat → Option Own} {L' : Nat → Option (Nat × Nat)} {h' : AHeap} {loc' : Loc} {w' : World} {o : Oper} {dst : Option Nat}
    (hd : dstOk N o dst = true) (hw : WRel m' own' h' w'.heap) (he : Ext E.m E.own E.h E.H m' own' h' w'.heap) (hf : Fr m' own' L' E.H.size w'.heap s.env loc' a.tmps)
    {v : AV} {cv : Value} (hv : ERel m' L' v cv) (hn : ∀ d, v.names = some d → loc' d ≠ none) {K : ASt → Prop} (hk : K ⟨s.env.put dst (some v), loc', h'⟩) (ho : Outs w w' := by exact ⟨rfl, rfl⟩) : SimK N E K (a.put o.dst cv) w' := by
  unfold dstOk at hd
  simp only [Bool.and_eq_true, beq_iff_eq] at hd
  obtain ⟨rfl, hd⟩ := hd
  refine ⟨_, m', own', L', hk, ⟨(put_size _ _ _).trans S.size, (put_defers' _ _ _).trans S.defs, hw, he, hf.put (fun d hd' => ?_) hv hn, S.out.trans ho⟩⟩
  rw [hd'] at hd
  rw [S.size]
  simpa using hd

/-- A step that leaves the world alone. -/
theorem Quiet.wp {o : Oper} {v : AV} (q : Quiet P o a w m L s v) (S : Sim N E m own L s a w) {dst : Option Nat} (hd : dstOk N o dst = true) {K : ASt → Prop} (hk : K ⟨s.env.put dst (some v), s.loc, s.h⟩) {Q : Exit → Act → World → Prop} :
    o.wp P a w (SimK N E K) Q := by
  obtain ⟨cv, h1, h2, h3⟩ := q
  exact wp_value h1 (S.step hd S.world S.ext S.fr h2 h3 hk)

/-- A row that never changes again reads as a slice. -/
theorem rows_sl {m0 : Mem} {sz : Nat} {xs : List (List AV)} {c : Array Value} (h : Rows m sz xs c) (hle : m.le m0) (b : Nat) (e : Nat) (hb : ∀ o, o < e → m0.imm b o = c[o]?) (he : xs.length * sz ≤ e) {t : Tag} {cap : Nat} (hcap : xs.length ≤ cap) (ht : TagOk m0 t b 0 xs.length cap sz) :
    VRel m0 (.sl sz xs t) (.slice (some ⟨b, 0, none⟩) xs.length cap) := by
  have hin : ∀ (i : Nat) (el : List AV) (j : Nat) (x : AV), xs[i]? = some el → el[j]? = some x → i * sz + j < e := fun i el j x hi hj => by
    have h1 := (List.getElem?_eq_some_iff.1 hi).1
    have h2 := (List.getElem?_eq_some_iff.1 hj).1
    rw [h.len el (List.mem_of_getElem? hi)] at h2
    have : (i + 1) * sz ≤ xs.length * sz := Nat.mul_le_mul_right sz h1
    rw [Nat.add_mul, Nat.one_mul] at this
    omega
  refine .sl (fun k => (c[k]?).getD undef) h.len hcap (fun i el j x hi hj => ?_) (fun i el j x hi hj => ?_) ht
  · obtain ⟨h1, cv, h2, h3⟩ := h.cell i el j x hi hj
    rw [Nat.zero_add, hb _ (hin i el j x hi hj), h2]
    exact ⟨rfl, h1⟩
  · obtain ⟨h1, cv, h2, h3⟩ := h.cell i el j x hi hj
    show VRel m0 x ((c[i * sz + j]?).getD undef)
    rw [h2]
    exact h3.mono hle

theorem rows_zero {zs : List AV} {z : Array Value} (h : VRels m zs z) (h1 : ∀ x ∈ zs, x.one = true) (n : Nat) : Rows m zs.length (List.replicate n zs) ((Array.range (n * zs.length)).map fun k => z[k % z.size]!) := by
  refine ⟨fun e he => by rw [List.eq_of_mem_replicate he], by simp, fun i e j x hi hj => ?_⟩
  rw [List.getElem?_replicate] at hi
  split at hi
  · rename_i hin
    injection hi with hi
    subst hi
    have hj' := (List.getElem?_eq_some_iff.1 hj).1
    have hlt : i * zs.length + j < n * zs.length := by
      have : (i + 1) * zs.length ≤ n * zs.length := Nat.mul_le_mul_right _ hin
      rw [Nat.add_mul, Nat.one_mul] at this
      omega
    have hjz : j < z.size := by rw [← h.1]; exact hj'
    refine ⟨h1 x (List.mem_of_getElem? hj), z[j], ?_, h.2 j x _ hj (Array.getElem?_eq_getElem hjz)⟩
    have hmod : (i * zs.length + j) % z.size = j := by
      rw [← h.1, Nat.mul_comm, Nat.mul_add_mod, Nat.mod_eq_of_lt hj']
    simp only [Array.getElem?_map]
    rw [Array.getElem?_range, if_pos hlt]
    simp only [Option.map_some, hmod]
    rw [getElem!_pos z j hjz]
  · cases hi

def kPartsS : List (Nat × Operand) → List Nat → List Opd → Bool
  | [], [], [] => true
  | (i, X) :: parts, q :: ps, y :: ys => i == q && opdOk X y && kPartsS parts ps ys
  | _, _, _ => false
def zeroOk (P : Program) (e : TypeId) (zs : List AV) : Bool :=
  match P.info? e with
  | some i => (match i.zero with | some z => scalarsOk z.cells.toList zs && i.size == zs.length | none => false)
  | none => false
def kBslice (P : Program) (n sz : Nat) (zs : List AV) (ps : List Nat) : Op → List Opd → Bool
  | .buildSlice t len parts, ys => len == n && (match P.underlying t with
    | some (.slice e) => zeroOk P e zs && zs.length == sz && decide (n * sz ≤ 2 ^ 24) && kPartsS parts.toList ps ys
    | _ => false)
  | _, _ => false

theorem kPartsS_spec : ∀ {parts : List (Nat × Operand)} {ps : List Nat} {ys : List Opd}, kPartsS parts ps ys = true →
    Opds (parts.map (·.2)) ys = true ∧ parts.length = ps.length ∧ ∀ (k : Nat) (p : Nat × Operand) (q : Nat), parts[k]? = some p → ps[k]? = some q → p.1 = q
  | [], [], [], _ => ⟨rfl, rfl, fun k p q h => by simp at h⟩
  | (i, X) :: parts, q :: ps, y :: ys, h => by
    simp only [kPartsS, Bool.and_eq_true, beq_iff_eq] at h
    obtain ⟨⟨h1, h2⟩, h3⟩ := h
    obtain ⟨e1, e2, e3⟩ := kPartsS_spec h3
    refine ⟨by simp [Opds, h2, e1], by simp [e2], fun k p q' hp hq => ?_⟩
    cases k with
    | zero => simp at hp hq; subst hp; subst hq; exact h1
    | succ k => simp at hp hq; exact e3 k p q' hp hq
  | [], [], _ :: _, h => by simp [kPartsS] at h
  | [], _ :: _, _, h => by simp [kPartsS] at h
  | _ :: _, [], _, h => by simp [kPartsS] at h
  | _ :: _, _ :: _, [], h => by simp [kPartsS] at h

theorem elemsV_fold (sz : Nat) : ∀ (ps : List Nat) (vs : List AV) (xs xs' : List (List AV)), (∀ e ∈ xs, e.length = sz) → elemsV sz xs ps vs = some xs' →
    ps.length = vs.length ∧ (∀ (k : Nat) (v : AV), vs[k]? = some v → v.fit = true ∧ v.cells.length = sz) ∧ xs'.length = xs.length ∧
    (((ps.map fun q => ((q, 0) : Nat × Nat))).zip vs).foldlM (fun xs (y : (Nat × Nat) × AV) => wrElem xs y.1.1 y.1.2 y.2.cells) xs = some xs'
  | [], [], xs, xs', _, h => by
    simp [elemsV] at h
    subst h
    exact ⟨rfl, fun k v h => by simp at h, rfl, rfl⟩
  | q :: ps, v :: vs, xs, xs', hs, h => by
    simp only [elemsV] at h
    split at h
    · rename_i hc
      obtain ⟨h1, h2, h3⟩ := hc
      obtain ⟨e1, e2, e3, e4⟩ := elemsV_fold sz ps vs _ xs' (fun e he => by
        rcases List.mem_or_eq_of_mem_set he with h5 | h5
        · exact hs e h5
        · rw [h5]; exact h1) h
      refine ⟨by simp [e1], fun k u hu => ?_, by rw [e3]; simp, ?_⟩
      · cases k with
        | zero => simp at hu; subst hu; exact ⟨h3, h1⟩
        | succ k => simp at hu; exact e2 k u hu
      · simp only [List.map_cons, List.zip_cons_cons, List.foldlM_cons]
        have hel : xs[q]? = some xs[q] := List.getElem?_eq_getElem h2
        have hl := hs xs[q] (List.getElem_mem h2)
        have : wrElem xs q 0 v.cells = some (xs.set q v.cells) := by
          unfold wrElem
          rw [hel]
          simp only [Nat.zero_add]
          rw [if_pos (by omega)]
          simp [List.drop_eq_nil_of_le (by omega : xs[q].length ≤ v.cells.length)]
        rw [this]
        exact e4
    · cases h
  | [], _ :: _, _, _, _, h => by simp [elemsV] at h
  | _ :: _, [], _, _, _, h => by simp [elemsV] at h

theorem zeroOk_spec {e : TypeId} {zs : List AV} (h : zeroOk P e zs = true) : ∃ i z, P.info? e = some i ∧ i.zero = some z ∧ i.size = zs.length ∧ VRels m zs z.cells ∧ ∀ x ∈ zs, x.one = true := by
  unfold zeroOk at h
  split at h
  · rename_i i hi
    split at h
    · rename_i z hz
      simp only [Bool.and_eq_true, beq_iff_eq] at h
      obtain ⟨h1, h2⟩ := h
      obtain ⟨z1, z2, z3⟩ := scalarsOk_rel m h1
      exact ⟨i, z, hi, hz, h2, ⟨by simpa using z1, fun i c cv a b => z3 i c cv a (by simpa using b)⟩, z2⟩
    · cases h
  · cases h

theorem w_bslice {o : Oper} {x : List Opd} {n sz : Nat} {zs : List AV} {ps : List Nat} {vs : List AV} {xs : List (List AV)} (S : Sim N E m own L s a w) (hk : kBslice P n sz zs ps o.op x = true) (hx : s.evs x = some vs)
    (hv : elemsV sz (List.replicate n zs) ps vs = some xs) {dst : Option Nat} (hd : dstOk N o dst = true) {K : ASt → Prop} (hK : K ⟨s.env.put dst (some (.sl sz xs .full)), s.loc, s.h⟩) {Q : Exit → Act → World → Prop} :
    o.wp P a w (SimK N E K) Q := by
  unfold kBslice at hk
  split at hk
  · rename_i t len parts ho
    simp only [Bool.and_eq_true, beq_iff_eq] at hk
    obtain ⟨rfl, hk⟩ := hk
    split at hk
    · rename_i e hu
      simp only [Bool.and_eq_true, beq_iff_eq, decide_eq_true_eq] at hk
      obtain ⟨⟨⟨hz, rfl⟩, hsmall⟩, hparts⟩ := hk
      obtain ⟨i, z, hi, hz0, hsz, hzr, hz1⟩ := zeroOk_spec (m := m) hz
      obtain ⟨p1, p2, p3⟩ := kPartsS_spec hparts
      obtain ⟨r1, r2⟩ := parts_rel S p1 hx
      obtain ⟨b1, b2, b3, b4⟩ := elemsV_fold zs.length ps vs _ xs (fun e he => by rw [List.eq_of_mem_replicate he]) hv
      have hrow := rows_zero hzr hz1 len
      obtain ⟨c', f1, f2⟩ := fill_rows (m := m) (fun i => some (i * zs.length, zs.length)) vs (parts.toList.map fun (y : Nat × Operand) => (y.1, a.eval y.2)) _ xs _ hrow r1
        (fun k u p hu' hp => ⟨r2 k u p hu' hp (b2 k u hu').1, (b2 k u hu').1⟩)
        (ps.map fun q => (q, 0)) (by simp [b1])
        (fun k q u p hq hu' hp => by
          rw [List.getElem?_map] at hq hp
          cases hk1 : ps[k]? with
          | none => simp [hk1] at hq
          | some q0 =>
            cases hk2 : parts.toList[k]? with
            | none => simp [hk2] at hp
            | some p0 =>
              simp [hk1] at hq
              simp [hk2] at hp
              subst hq; subst hp
              rw [p3 k p0 q0 hk2 hk1, (b2 k u hu').2, Nat.add_zero])
        b4
      have hlen : xs.length = len := by rw [b3]; simp
      have hrun : (execOp a.eval o).run P w = .ok (.value (.slice (some ⟨w.heap.size, 0, none⟩) len len)) (w.alloc (.cells c' e)) := by
        have hb : (Instr.buildSlice t len (parts.map fun (i, x) => (i, a.eval x))).run P w = .ok (.slice (some ⟨w.heap.size, 0, none⟩) len len) (w.alloc (.cells c' e)) := by
          by_cases h0 : len * zs.length = 0
          · rw [h0, Go.Array.range_zero', Array.map_empty] at f1
            simp [Instr.buildSlice, run_underlying hu, Go.sizeOf, typeInfo, hi, hsz, h0, f1, newRow, Go.Array.range_zero']
          · have h1 : ¬ 2 ^ 24 < len * zs.length := by omega
            simp [Instr.buildSlice, run_underlying hu, Go.sizeOf, typeInfo, zeroValue, hi, hz0, hsz, h0, h1, f1, newRow]
        unfold execOp
        simp only [ho]
        simp only [Sem.run_bind, hb, Result.andThen_ok]
        rfl
      obtain ⟨w1, e1⟩ := S.world.immBlock c' e c'.size
      refine wp_value hrun (S.step (L' := L) hd w1 (S.ext.trans e1) ?_ (.plain ?_) (fun d hd => by simp [AV.names] at hd) hK)
      · exact S.fr.mono e1.mem fun b d hb => ⟨hb, push_old _ _ _ (S.world.lt _ _ hb)⟩
      · have := rows_sl (m0 := m.addImm w.heap.size c' c'.size) f2 e1.mem w.heap.size c'.size (fun o ho => by simp only [Mem.addImm, if_true]; rw [if_pos ho]) (by rw [f2.size]; exact Nat.le_refl _) (Nat.le_refl _) (t := .full) (cap := xs.length) rfl
        rw [hlen] at this
        exact this
    · cases hk
  · cases hk

/-- A local object is born. -/
theorem Fr.birth {h : AHeap} {B : Nat} {H : Array Obj} {env : Env} {loc : Loc} {tmps : Array Value} (F : Fr m own L B H env loc tmps) (W : WRel m own h H) (hB : B ≤ H.size) {d : Nat} (hd : loc d = none) (ob : Obj) (sz : Nat) {ao : AObj} (ho : ORel m (some ob) sz ao) :
    Fr m (ownSet own H.size (.loc d)) (fun j => if j = d then some (H.size, sz) else L j) B (H.push ob) env (loc.set d (some ao)) tmps := by
  have hnd : ∀ k v d', env k = some v → v.names = some d' → d' ≠ d := fun k v d' hv hn e => by
    subst e
    exact F.wf k v d' hv hn hd
  refine ⟨fun k v hv => ?_, fun d' o' ho' hdead => ?_, fun k v d' hv hn => ?_⟩
  · obtain ⟨cv, h1, h2⟩ := F.renv k v hv
    exact ⟨cv, h1, h2.mono (Mem.le.refl m) fun d' hn => by rw [if_neg (hnd k v d' hv hn)]⟩
  · simp only [Loc.set] at ho'
    by_cases e : d' = d
    · rw [if_pos e] at ho'
      injection ho' with ho'
      subst ho'
      subst e
      exact ⟨H.size, sz, by simp, by simp [ownSet], hB, by rw [push_new]; exact ho⟩
    · rw [if_neg e] at ho'
      obtain ⟨b, s', h1, h2, h3, h4⟩ := F.rloc d' o' ho' hdead
      have hlt := W.lt _ _ h2
      exact ⟨b, s', by rw [if_neg e]; exact h1, by simp only [ownSet]; rw [if_neg (by omega)]; exact h2, h3, by rw [push_old _ _ _ hlt]; exact h4⟩
  · simp only [Loc.set]
    rw [if_neg (hnd k v d' hv hn)]
    exact F.wf k v d' hv hn

theorem isNone_eq {α : Type} {x : Option α} (h : x.isNone = true) : x = none := by cases x <;> simp at h; rfl

/-- The end of a step that lays a local object. -/
theorem Sim.born (S : Sim N E m own L s a w) {d : Nat} (hnone : s.loc d = none) (ob : Obj) (sz : Nat) {ao : AObj} (hor : ORel m (some ob) sz ao) {o : Oper} {dst : Option Nat} (hd : dstOk N o dst = true)
    {v : AV} {cv : Value} (hv : ERel m (fun j => if j = d then some (w.heap.size, sz) else L j) v cv) (hn : v.names = some d)
    {K : ASt → Prop} (hK : K ⟨s.env.put dst (some v), s.loc.set d (some ao), s.h⟩) {Q : Exit → Act → World → Prop} (hrun : (execOp a.eval o).run P w = .ok (.value cv) (w.alloc ob)) : o.wp P a w (SimK N E K) Q := by
  obtain ⟨w1, e1⟩ := S.world.newLoc ob d
  refine wp_value hrun (S.step hd w1 (S.ext.trans e1) (S.fr.birth S.world S.ext.size hnone ob sz hor) hv (fun d' hd' => ?_) hK)
  rw [hn] at hd'
  injection hd' with hd'
  subst hd'
  simp [Loc.set]

def kNew (P : Program) (zs : List AV) : Op → List Opd → Bool
  | .alloc e, [] => zeroOk P e zs
  | _, _ => false
def kBox : Op → List Opd → Bool
  | .box _ x, [y] => opdOk x y
  | _, _ => false

theorem w_newl {o : Oper} {x : List Opd} {d : Nat} {zs : List AV} (S : Sim N E m own L s a w) (hk : kNew P zs o.op x = true) (hnone : s.loc d = none) {dst : Option Nat} (hd : dstOk N o dst = true)
    {K : ASt → Prop} (hK : K ⟨s.env.put dst (some (.lp d 0 0)), s.loc.set d (some (.arr zs.length [zs])), s.h⟩) {Q : Exit → Act → World → Prop} : o.wp P a w (SimK N E K) Q := by
  unfold kNew at hk
  split at hk
  · rename_i e ho
    obtain ⟨i, z, hi, hz0, hsz, hzr, hz1⟩ := zeroOk_spec (m := m) hk
    refine S.born (ao := .arr zs.length [zs]) hnone (.cells z.cells e) zs.length ⟨rfl, _, _, rfl, Rows.one hzr hz1⟩ hd (cv := .pointer (some ⟨w.heap.size, 0, none⟩)) ?_ rfl hK ?_
    · have := ERel.lp (m := m) (L := fun j => if j = d then some (w.heap.size, zs.length) else L j) (d := d) (b := w.heap.size) (s := zs.length) 0 0 (by simp)
      simpa using this
    · unfold execOp
      simp only [ho]
      simp [Instr.alloc, zeroValue, typeInfo, hi, hz0, newVar, newRow]
  · cases hk

theorem w_boxl {o : Oper} {x : List Opd} {d : Nat} {v : AV} (S : Sim N E m own L s a w) (hk : kBox o.op x = true) (hx : s.evs x = some [v]) (hf : v.fit = true) (hnone : s.loc d = none) {dst : Option Nat} (hd : dstOk N o dst = true)
    {K : ASt → Prop} (hK : K ⟨s.env.put dst (some (.lp d 0 0)), s.loc.set d (some (.arr v.cells.length [v.cells])), s.h⟩) {Q : Exit → Act → World → Prop} : o.wp P a w (SimK N E K) Q := by
  unfold kBox at hk
  split at hk
  · rename_i e X y ho
    obtain ⟨u, h1, h2⟩ := evs_one hx
    injection h2 with h2
    subst h2
    have hpl : v.plain = true := by cases v <;> first | rfl | simp [AV.fit, AV.one] at hf
    have r := (ev_sound S hk h1).toV hpl
    refine S.born (ao := .arr v.cells.length [v.cells]) hnone (.cells (a.eval X).cells e) v.cells.length ⟨rfl, _, _, rfl, Rows.one r.cells (r.cellsOne hf)⟩ hd (cv := .pointer (some ⟨w.heap.size, 0, none⟩)) ?_ rfl hK ?_
    · have := ERel.lp (m := m) (L := fun j => if j = d then some (w.heap.size, v.cells.length) else L j) (d := d) (b := w.heap.size) (s := v.cells.length) 0 0 (by simp)
      simpa using this
    · unfold execOp
      simp only [ho]
      simp [Instr.box, newVar, newRow]
  · cases hk

def mkOk (P : Program) (zs : List AV) (mx : Nat) (t : TypeId) : Bool :=
  match P.underlying t with
  | some (.slice e) => zeroOk P e zs && (match P.info? e with | some i => decide (i.bytes * mx ≤ 281474976710656) && decide (mx ≤ 9223372036854775807) | none => false)
  | _ => false
def kMk (P : Program) (zs : List AV) (mx : Nat) : Op → List Opd → Bool
  | .makeSlice t l c, [y] => opdOk l y && opdOk c y && mkOk P zs mx t
  | _, _ => false

theorem mk_run {o : Oper} {x : List Opd} {zs : List AV} {mx : Nat} {k : IntKind} {n : Int} (S : Sim N E m own L s a w) (hk : kMk P zs mx o.op x = true) (hx : s.evs x = some [.int k n]) (h0 : 0 ≤ n) (h1 : n ≤ mx) :
    ∃ c e, (execOp a.eval o).run P w = .ok (.value (.slice (some ⟨w.heap.size, 0, none⟩) n.toNat n.toNat)) (w.alloc (.cells c e)) ∧ Rows m zs.length (List.replicate n.toNat zs) c := by
  unfold kMk at hk
  split at hk
  · rename_i t X Y y ho
    simp only [Bool.and_eq_true] at hk
    obtain ⟨⟨hX, hY⟩, ht⟩ := hk
    obtain ⟨u, h2, h3⟩ := evs_one hx
    injection h3 with h3
    subst h3
    have r1 := rel_int (ev_sound S hX h2)
    have r2 := rel_int (ev_sound S hY h2)
    unfold mkOk at ht
    split at ht
    · rename_i e hu
      simp only [Bool.and_eq_true] at ht
      obtain ⟨hz, hb⟩ := ht
      obtain ⟨i, z, hi, hz0, hsz, hzr, hz1⟩ := zeroOk_spec (m := m) hz
      simp only [hi, Bool.and_eq_true, decide_eq_true_eq] at hb
      obtain ⟨hb1, hb2⟩ := hb
      have hbytes : (i.bytes : Int) * n ≤ 281474976710656 := by
        have h4 : i.bytes * n.toNat ≤ i.bytes * mx := Nat.mul_le_mul_left _ (by omega)
        have h5 : ((i.bytes * n.toNat : Nat) : Int) ≤ 281474976710656 := by omega
        rw [Int.natCast_mul, Int.toNat_of_nonneg h0] at h5
        exact h5
      have hr := run_make (P := P) w t e i z hu hi hz0 k k n n h0 (Int.le_refl _) hbytes (by omega)
      refine ⟨madeCells z.cells (n.toNat * i.size), e, ?_, ?_⟩
      · unfold execOp
        simp only [ho, r1, r2]
        simp only [Sem.run_bind, hr, Result.andThen_ok]
        rfl
      · rw [hsz]
        exact rows_zero hzr hz1 n.toNat
    · cases ht
  · cases hk

theorem w_mkl {o : Oper} {x : List Opd} {d : Nat} {zs : List AV} {mx : Nat} {k : IntKind} {n : Int} (S : Sim N E m own L s a w) (hk : kMk P zs mx o.op x = true) (hx : s.evs x = some [.int k n]) (h0 : 0 ≤ n) (h1 : n ≤ mx) (hnone : s.loc d = none) {dst : Option Nat} (hd : dstOk N o dst = true)
    {K : ASt → Prop} (hK : K ⟨s.env.put dst (some (.lm d zs.length 0 n.toNat)), s.loc.set d (some (.arr zs.length (List.replicate n.toNat zs))), s.h⟩) {Q : Exit → Act → World → Prop} : o.wp P a w (SimK N E K) Q := by
  obtain ⟨c, e, hr, hrow⟩ := mk_run S hk hx h0 h1
  refine S.born (ao := .arr zs.length (List.replicate n.toNat zs)) hnone (.cells c e) zs.length ⟨rfl, _, _, rfl, hrow⟩ hd ?_ rfl hK hr
  have := ERel.lm (m := m) (L := fun j => if j = d then some (w.heap.size, zs.length) else L j) (d := d) (s := zs.length) (b := w.heap.size) 0 n.toNat n.toNat (by simp) (Nat.le_refl _)
  simpa using this

def kMm (P : Program) (ag : Bool) (ks : List Nat) : Op → List Opd → Bool
  | .makeMap t none, [] => (match P.underlying t with | some (.map k _) => (isStruct P k == ag) && (flatKinds P 8 k == some ks) | _ => false)
  | _, _ => false

theorem mm_run {o : Oper} {x : List Opd} {ag : Bool} {ks : List Nat} (hk : kMm P ag ks o.op x = true) : (execOp a.eval o).run P w = .ok (.value (.map (some w.heap.size))) (w.alloc (.map #[] 0)) := by
  unfold kMm at hk
  split at hk
  · rename_i t ho
    unfold execOp
    simp only [ho]
    simp [Instr.makeMap]
  · cases hk

theorem w_mml {o : Oper} {x : List Opd} {d : Nat} {ag : Bool} {ks : List Nat} (S : Sim N E m own L s a w) (hk : kMm P ag ks o.op x = true) (hnone : s.loc d = none) {dst : Option Nat} (hd : dstOk N o dst = true)
    {K : ASt → Prop} (hK : K ⟨s.env.put dst (some (.lmap d)), s.loc.set d (some (.map ag ks [])), s.h⟩) {Q : Exit → Act → World → Prop} : o.wp P a w (SimK N E K) Q := by
  refine S.born hnone (.map #[] 0) 0 (ao := .map ag ks []) ⟨#[], 0, rfl, rfl, fun i k v en h => by simp at h⟩ hd ?_ rfl hK (mm_run hk)
  exact ERel.lmap (s := 0) (by simp)

/-- The end of a step that lays an object on the heap. -/
theorem Sim.bornH (S : Sim N E m own L s a w) (ob : Obj) (sz : Nat) {ao : AObj} (hor : ORel m (some ob) sz ao) {o : Oper} {dst : Option Nat} (hd : dstOk N o dst = true)
    {vf : Nat → AV} {cv : Value} (hv : ∀ l, (m.addObj m.nx w.heap.size sz).hb l = some (w.heap.size, sz) → VRel (m.addObj m.nx w.heap.size sz) (vf l) cv)
    {K : ASt → Prop} (hK : ∀ l, s.h.os l = none → K ⟨s.env.put dst (some (vf l)), s.loc, s.h.set l (some ao)⟩) {Q : Exit → Act → World → Prop} (hrun : (execOp a.eval o).run P w = .ok (.value cv) (w.alloc ob)) : o.wp P a w (SimK N E K) Q := by
  obtain ⟨w1, e1⟩ := S.world.newObj ob sz ao hor
  have hvr := hv m.nx (by simp [Mem.addObj])
  refine wp_value hrun (S.step (L' := L) hd w1 (S.ext.trans e1) ?_ (.plain hvr) (plain_names hvr.plain) (hK m.nx S.world.fresh.2.2.1))
  exact S.fr.mono e1.mem fun b d hb => by
    have hlt := S.world.lt _ _ hb
    exact ⟨by simp only [ownSet]; rw [if_neg (by omega)]; exact hb, push_old _ _ _ hlt⟩

theorem w_newh {o : Oper} {x : List Opd} {zs : List AV} (S : Sim N E m own L s a w) (hk : kNew P zs o.op x = true) {dst : Option Nat} (hd : dstOk N o dst = true)
    {K : ASt → Prop} (hK : ∀ l, s.h.os l = none → K ⟨s.env.put dst (some (.hp l 0 0)), s.loc, s.h.set l (some (.arr zs.length [zs]))⟩) {Q : Exit → Act → World → Prop} : o.wp P a w (SimK N E K) Q := by
  unfold kNew at hk
  split at hk
  · rename_i e ho
    obtain ⟨i, z, hi, hz0, hsz, hzr, hz1⟩ := zeroOk_spec (m := m) hk
    refine S.bornH (ao := .arr zs.length [zs]) (.cells z.cells e) zs.length ⟨rfl, _, _, rfl, Rows.one hzr hz1⟩ hd (vf := fun l => .hp l 0 0) (cv := .pointer (some ⟨w.heap.size, 0, none⟩)) (fun l hl => ?_) hK ?_
    · have := VRel.hp 0 0 hl
      simpa using this
    · unfold execOp
      simp only [ho]
      simp [Instr.alloc, zeroValue, typeInfo, hi, hz0, newVar, newRow]
  · cases hk

theorem w_boxh {o : Oper} {x : List Opd} {v : AV} (S : Sim N E m own L s a w) (hk : kBox o.op x = true) (hx : s.evs x = some [v]) (hf : v.fit = true) {dst : Option Nat} (hd : dstOk N o dst = true)
    {K : ASt → Prop} (hK : ∀ l, s.h.os l = none → K ⟨s.env.put dst (some (.hp l 0 0)), s.loc, s.h.set l (some (.arr v.cells.length [v.cells]))⟩) {Q : Exit → Act → World → Prop} : o.wp P a w (SimK N E K) Q := by
  unfold kBox at hk
  split at hk
  · rename_i e X y ho
    obtain ⟨u, h1, h2⟩ := evs_one hx
    injection h2 with h2
    subst h2
    have hpl : v.plain = true := by cases v <;> first | rfl | simp [AV.fit, AV.one] at hf
    have r := (ev_sound S hk h1).toV hpl
    refine S.bornH (ao := .arr v.cells.length [v.cells]) (.cells (a.eval X).cells e) v.cells.length ⟨rfl, _, _, rfl, Rows.one r.cells (r.cellsOne hf)⟩ hd (vf := fun l => .hp l 0 0) (cv := .pointer (some ⟨w.heap.size, 0, none⟩)) (fun l hl => ?_) hK ?_
    · have := VRel.hp 0 0 hl
      simpa using this
    · unfold execOp
      simp only [ho]
      simp [Instr.box, newVar, newRow]
  · cases hk

theorem w_mkh {o : Oper} {x : List Opd} {zs : List AV} {mx : Nat} {k : IntKind} {n : Int} (S : Sim N E m own L s a w) (hk : kMk P zs mx o.op x = true) (hx : s.evs x = some [.int k n]) (h0 : 0 ≤ n) (h1 : n ≤ mx) {dst : Option Nat} (hd : dstOk N o dst = true)
    {K : ASt → Prop} (hK : ∀ l, s.h.os l = none → K ⟨s.env.put dst (some (.hm l zs.length 0 n.toNat n.toNat)), s.loc, s.h.set l (some (.arr zs.length (List.replicate n.toNat zs)))⟩) {Q : Exit → Act → World → Prop} : o.wp P a w (SimK N E K) Q := by
  obtain ⟨c, e, hr, hrow⟩ := mk_run S hk hx h0 h1
  refine S.bornH (ao := .arr zs.length (List.replicate n.toNat zs)) (.cells c e) zs.length ⟨rfl, _, _, rfl, hrow⟩ hd (vf := fun l => .hm l zs.length 0 n.toNat n.toNat) (fun l hl => ?_) hK hr
  have := VRel.hm (l := l) (s := zs.length) (b := w.heap.size) 0 n.toNat n.toNat hl (Nat.le_refl _)
  simpa using this

theorem w_mmh {o : Oper} {x : List Opd} {ag : Bool} {ks : List Nat} (S : Sim N E m own L s a w) (hk : kMm P ag ks o.op x = true) {dst : Option Nat} (hd : dstOk N o dst = true)
    {K : ASt → Prop} (hK : ∀ l, s.h.os l = none → K ⟨s.env.put dst (some (.hmap l)), s.loc, s.h.set l (some (.map ag ks []))⟩) {Q : Exit → Act → World → Prop} : o.wp P a w (SimK N E K) Q := by
  refine S.bornH (.map #[] 0) 0 (ao := .map ag ks []) ⟨#[], 0, rfl, rfl, fun i k v en h => by simp at h⟩ hd (vf := fun l => .hmap l) (fun l hl => ?_) hK (mm_run hk)
  exact VRel.hmap hl
end
end Abs

/- Abs13: stores; an array that becomes a slice for ever; append. -/
namespace Abs
open Go
section
variable {P : Program} {N : Nat} {E : Entry} {m : Mem} {own : Nat → Option Own} {L : Nat → Option (Nat × Nat)} {s : ASt} {a : Act} {w : World}

theorem Ext.local_ {m0 : Mem} {o0 : Nat → Option Own} {h0 h : AHeap} {H0 H H' : Array Obj} {b : Nat} (e : Ext m0 o0 h0 H0 m own h H) (hb : H0.size ≤ b) (hs : H'.size = H.size) (hk : ∀ b', b' ≠ b → H'[b']? = H[b']?) :
    Ext m0 o0 h0 H0 m own h H' :=
  ⟨e.mem, by rw [hs]; exact e.size, fun b' hb' hf => let ⟨h1, h2, h3⟩ := e.keep b' hb' hf; ⟨h1, (hk b' (by omega)).trans h2, h3⟩, e.foot⟩

/-- A local object's block has turned. -/
theorem Fr.setLoc {B : Nat} {H H' : Array Obj} {env : Env} {loc : Loc} {tmps : Array Value} (F : Fr m own L B H env loc tmps) {d b sz : Nat} {o o' : AObj} (hd : loc d = some o) (hdead : o ≠ .dead) (hL : L d = some (b, sz)) (hb : own b = some (.loc d))
    (hk : ∀ b', b' ≠ b → H'[b']? = H[b']?) (ho : ORel m H'[b]? sz o') : Fr m own L B H' env (loc.set d (some o')) tmps := by
  refine ⟨F.renv, fun d' x hx hx' => ?_, fun k v d' hv hn => ?_⟩
  · simp only [Loc.set] at hx
    by_cases e : d' = d
    · subst e
      rw [if_pos rfl] at hx
      injection hx with hx
      subst hx
      obtain ⟨b1, s1, e1, e2, e3, _⟩ := F.rloc d' o hd hdead
      rw [hL] at e1
      injection e1 with e1; injection e1 with e1 e1'
      subst e1; subst e1'
      exact ⟨b, sz, hL, hb, e3, ho⟩
    · rw [if_neg e] at hx
      obtain ⟨b1, s1, e1, e2, e3, e4⟩ := F.rloc d' x hx hx'
      have hne : b1 ≠ b := by
        rintro rfl
        rw [hb] at e2
        injection e2 with e2; injection e2 with e2
        exact e e2.symm
      exact ⟨b1, s1, e1, e2, e3, by rw [hk b1 hne]; exact e4⟩
  · simp only [Loc.set]
    split
    · simp
    · exact F.wf k v d' hv hn

def kSt (P : Program) (n : Nat) : Op → List Opd → Bool
  | .store t x y, [x', y'] => opdOk x x' && opdOk y y' && (match P.info? t with | some i => i.size == n | none => false)
  | _, _ => false

theorem fit_plain {v : AV} (hf : v.fit = true) : v.plain = true := by cases v <;> first | rfl | simp [AV.fit, AV.one] at hf

theorem wrObj_spec {o : Option AObj} {i j : Nat} {cs : List AV} {o' : AObj} (h : wrObj o i j cs = some o') : ∃ sz xs xs', o = some (.arr sz xs) ∧ wrElem xs i j cs = some xs' ∧ o' = .arr sz xs' := by
  unfold wrObj at h
  split at h
  · rename_i sz xs
    cases hw : wrElem xs i j cs with
    | none => simp [hw] at h
    | some xs' => simp [hw] at h; exact ⟨sz, xs, xs', rfl, hw, h.symm⟩
  · cases h

theorem setRow_facts (w : World) {b : Nat} {c c' : Array Value} {ty : TypeId} (h : w.heap[b]? = some (.cells c ty (0, 0))) :
    (w.setRow b c').heap.size = w.heap.size ∧ (∀ b', b' ≠ b → (w.setRow b c').heap[b']? = w.heap[b']?) ∧ (w.setRow b c').heap[b]? = some (.cells c' ty (0, 0)) :=
  ⟨by simp [World.setRow], fun b' hb => setRow_other w b b' c' hb, setRow_heap w b c c' ty (0, 0) h⟩

/-- What a store does to a block that reads as rows. -/
theorem store_run {o : Oper} {X Y : Operand} {t : TypeId} (ho : o.op = .store t X Y) {n : Nat} (hi : ∃ i, P.info? t = some i ∧ i.size = n) {v : AV} (hv : VRel m v (a.eval Y)) (hf : v.fit = true) (hn : v.cells.length = n)
    {b sz : Nat} {c : Array Value} {ty : TypeId} (hc : w.heap[b]? = some (.cells c ty (0, 0))) {xs xs' : List (List AV)} (hr : Rows m sz xs c) {i j : Nat} (hw : wrElem xs i j v.cells = some xs') (hX : a.eval X = .pointer (some ⟨b, i * sz + j, none⟩)) :
    ∃ c', (execOp a.eval o).run P w = .ok .skip (w.setRow b c') ∧ Rows m sz xs' c' ∧ c'.size = c.size := by
  obtain ⟨inf, hi, hsz⟩ := hi
  have hcr := hv.cells
  have hlen : (a.eval Y).cells.toList.length = v.cells.length := by simpa using hcr.1.symm
  have hfit : i * sz + j + v.cells.length ≤ c.size := by
    unfold wrElem at hw
    cases he : xs[i]? with
    | none => simp [he] at hw
    | some e =>
      simp only [he] at hw
      split at hw
      · have hes := hr.len e (List.mem_of_getElem? he)
        have hlt := (List.getElem?_eq_some_iff.1 he).1
        rw [hr.size]
        have : (i + 1) * sz ≤ xs.length * sz := Nat.mul_le_mul_right sz hlt
        rw [Nat.add_mul, Nat.one_mul] at this
        omega
      · cases hw
  have hone : ∀ u ∈ (a.eval Y).cells.toList, u.oneCell' = true := fun u hu => by
    obtain ⟨k, hk⟩ := List.getElem?_of_mem hu
    have hlt : k < v.cells.length := by rw [← hlen]; exact (List.getElem?_eq_some_iff.1 hk).1
    exact (hcr.2 k v.cells[k] u (List.getElem?_eq_getElem hlt) (by simpa using hk)).oneCell (hv.cellsOne hf _ (List.getElem_mem hlt))
  have hst := run_storeCells_at P b (i * sz + j) ty (a.eval Y).cells.toList 0 c w hc (by simp only [Nat.add_zero]; omega) hone
  simp only [Nat.add_zero] at hst
  have hwr := Wr.splice c (i * sz + j) (a.eval Y).cells.toList (by omega)
  refine ⟨_, ?_, hr.write hw (vs := (a.eval Y).cells.toList) hlen.symm (hv.cellsOne hf) (fun k x u hx hu => hcr.2 k x u hx (by simpa using hu)) hwr, hwr.size⟩
  unfold execOp
  simp only [ho, hX]
  have hsize : ¬ (a.eval Y).cells.size ≠ inf.size := by
    have := hcr.1
    omega
  simp only [Instr.storeAt, Instr.sureAddr, storeVar, Go.sizeOf, typeInfo, Sem.run_bind, run_program, Result.andThen_ok, hi, Sem.run_pure]
  rw [if_neg hsize, hst]
  rfl

/-- The end of a step without a value. -/
theorem Sim.stepSkip (S : Sim N E m own L s a w) {m' : Mem} {own' : Nat → Option Own} {L' : Nat → Option (Nat × Nat)} {h' : AHeap} {loc' : Loc} {w' : World} {o : Oper}
    (hd : dstOk N o none = true) (hw : WRel m' own' h' w'.heap) (he : Ext E.m E.own E.h E.H m' own' h' w'.heap) (hf : Fr m' own' L' E.H.size w'.heap s.env loc' a.tmps)
    {K : ASt → Prop} (hk : K ⟨s.env, loc', h'⟩) (ho : Outs w w' := by exact ⟨rfl, rfl⟩) : SimK N E K (a.put o.dst undef) w' := by
  unfold dstOk at hd
  simp only [Bool.and_eq_true, beq_iff_eq] at hd
  obtain ⟨h1, _⟩ := hd
  rw [h1]
  exact ⟨_, m', own', L', hk, ⟨S.size, S.defs, hw, he, hf, S.out.trans ho⟩⟩

theorem w_st {o : Oper} {x : List Opd} {n d i j : Nat} {v : AV} {ob : AObj} (S : Sim N E m own L s a w) (hk : kSt P n o.op x = true) (hx : s.evs x = some [.lp d i j, v]) (hf : v.fit = true) (hn : v.cells.length = n) (hw : wrObj (s.loc d) i j v.cells = some ob)
    (hd : dstOk N o none = true) {K : ASt → Prop} (hK : K ⟨s.env, s.loc.set d (some ob), s.h⟩) {Q : Exit → Act → World → Prop} : o.wp P a w (SimK N E K) Q := by
  unfold kSt at hk
  split at hk
  · rename_i t X Y x' y' ho
    simp only [Bool.and_eq_true] at hk
    obtain ⟨⟨hX, hY⟩, hi⟩ := hk
    obtain ⟨u, u', h1, h2, h3⟩ := evs_two hx
    injection h3 with h3 h4; injection h4 with h4 _
    subst h3; subst h4
    have rx := ev_sound S hX h1
    have ry := (ev_sound S hY h2).toV (fit_plain hf)
    have hi' : ∃ i, P.info? t = some i ∧ i.size = n := by
      split at hi
      · rename_i inf h; exact ⟨inf, h, by simpa using hi⟩
      · cases hi
    obtain ⟨sz, xs, xs', e1, e2, rfl⟩ := wrObj_spec hw
    obtain ⟨b, sz', f1, f2, f3, rfl, c, ty, f4, f5⟩ := S.fr.rloc d _ e1 (by simp)
    have hXv : a.eval X = .pointer (some ⟨b, i * sz + j, none⟩) := by
      generalize hc : a.eval X = cx at rx
      cases rx with
      | plain h => cases h
      | lp _ _ h => rw [f1] at h; injection h with h; injection h with h h'; rw [h, h']
    obtain ⟨c', g1, g2, g3⟩ := store_run ho hi' ry hf hn f4 f5 e2 hXv
    obtain ⟨k1, k2, k3⟩ := setRow_facts w (c' := c') f4
    exact wp_skipped g1 (S.stepSkip (L' := L) hd (S.world.setLoc f2 k1 k2) (S.ext.local_ f3 k1 k2) (S.fr.setLoc (o' := .arr sz xs') e1 (by simp) f1 f2 k2 ⟨rfl, c', ty, k3, g2⟩) hK)
  · cases hk

theorem w_sth {o : Oper} {x : List Opd} {n l i j : Nat} {v : AV} {ob : AObj} (S : Sim N E m own L s a w) (hk : kSt P n o.op x = true) (hx : s.evs x = some [.hp l i j, v]) (hf : v.fit = true) (hn : v.cells.length = n) (hw : wrObj (s.h.os l) i j v.cells = some ob)
    (hd : dstOk N o none = true) {K : ASt → Prop} (hK : K ⟨s.env, s.loc, s.h.set l (some ob)⟩) {Q : Exit → Act → World → Prop} : o.wp P a w (SimK N E K) Q := by
  unfold kSt at hk
  split at hk
  · rename_i t X Y x' y' ho
    simp only [Bool.and_eq_true] at hk
    obtain ⟨⟨hX, hY⟩, hi⟩ := hk
    obtain ⟨u, u', h1, h2, h3⟩ := evs_two hx
    injection h3 with h3 h4; injection h4 with h4 _
    subst h3; subst h4
    have rx := (ev_sound S hX h1).toV rfl
    have ry := (ev_sound S hY h2).toV (fit_plain hf)
    have hi' : ∃ i, P.info? t = some i ∧ i.size = n := by
      split at hi
      · rename_i inf h; exact ⟨inf, h, by simpa using hi⟩
      · cases hi
    obtain ⟨sz, xs, xs', e1, e2, rfl⟩ := wrObj_spec hw
    obtain ⟨b, sz', f1, f2, rfl, c, ty, f4, f5⟩ := S.world.obj l _ e1
    have hXv : a.eval X = .pointer (some ⟨b, i * sz + j, none⟩) := by
      generalize hc : a.eval X = cx at rx
      cases rx with
      | hp _ _ h => rw [f1] at h; injection h with h; injection h with h h'; rw [h, h']
    obtain ⟨c', g1, g2, g3⟩ := store_run ho hi' ry hf hn f4 f5 e2 hXv
    obtain ⟨k1, k2, k3⟩ := setRow_facts w (c' := c') f4
    obtain ⟨w1, x1⟩ := S.world.setObj e1 f1 k1 k2 (o' := .arr sz xs') (by rw [k3]; exact ⟨rfl, c', ty, rfl, g2⟩)
    refine wp_skipped g1 (S.stepSkip (L' := L) hd w1 (S.ext.trans x1) (S.fr.mono (Mem.le.refl m) fun b' d hb => ⟨hb, k2 b' ?_⟩) hK)
    rintro rfl
    rw [f2] at hb; cases hb
  · cases hk

/-! ### An array that never changes again -/

/-- A block's first cells never change again, and nobody owns it. -/
def Mem.freeze (m : Mem) (b0 : Nat) (c : Array Value) : Mem := { m with imm := fun b o => if b = b0 then c[o]? else m.imm b o }
def ownFree (own : Nat → Option Own) (b : Nat) : Nat → Option Own := fun j => if j = b then none else own j

theorem WRel.freeze {h : AHeap} {H : Array Obj} (W : WRel m own h H) {b : Nat} {c : Array Value} {ty : TypeId} (hc : H[b]? = some (.cells c ty (0, 0))) (hnone : ∀ o, m.imm b o = none) {h' : AHeap} (hle : h'.le h) (hnd : h'.al.Nodup)
    (hobj : ∀ l o, h'.os l = some o → own b ≠ some (.obj l)) (htok : ∀ t, own b ≠ some (.tok t)) : m.le (m.freeze b c) ∧ WRel (m.freeze b c) (ownFree own b) h' H := by
  have hle' : m.le (m.freeze b c) := by
    refine ⟨fun b' o v hv => ?_, fun _ _ h => h, fun _ _ h => h⟩
    simp only [Mem.freeze]
    rw [if_neg]
    · exact hv
    · rintro rfl; rw [hnone o] at hv; cases hv
  have hn : ∀ b' x, ownFree own b b' = some x → b' ≠ b ∧ own b' = some x := fun b' x hx => by
    simp only [ownFree] at hx
    split at hx
    · cases hx
    · rename_i e; exact ⟨e, hx⟩
  have hi : ∀ b' o, b' ≠ b → (m.freeze b c).imm b' o = m.imm b' o := fun b' o e => by simp only [Mem.freeze]; rw [if_neg e]
  refine ⟨hle', ⟨fun b' o v hv => ?_, fun b' o l hl => ?_, fun b' o d hd => ?_, fun b' o t i ht hi' he => ?_, fun b' x hx => W.lt b' x (hn b' x hx).2, fun l o ho => ?_, fun t ht => ?_, hnd, W.nx, fun b' t ht => W.ownTok b' t (hn b' _ ht).2⟩⟩
  · by_cases e : b' = b
    · subst e
      simp only [Mem.freeze, if_true] at hv
      unfold cellH
      rw [hc]
      exact hv
    · rw [hi b' o e] at hv; exact W.imm b' o v hv
  · obtain ⟨e, hl⟩ := hn b' _ hl
    rw [hi b' o e]; exact W.immObj b' o l hl
  · obtain ⟨e, hd⟩ := hn b' _ hd
    rw [hi b' o e]; exact W.immLoc b' o d hd
  · obtain ⟨e, ht⟩ := hn b' _ ht
    rw [hi b' o e]; exact W.immTok b' o t i ht hi' he
  · obtain ⟨b', sz, h1, h2, h3⟩ := W.obj l o (hle.1 l o ho)
    have hne : b' ≠ b := by rintro rfl; exact hobj l o ho h2
    exact ⟨b', sz, h1, by simp only [ownFree]; rw [if_neg hne]; exact h2, h3.mono hle'⟩
  · obtain ⟨i, h1, h2, h3⟩ := W.tok t (hle.2.subset ht)
    have hne : i.b ≠ b := by rintro e; rw [e] at h2; exact htok t h2
    exact ⟨i, h1, by simp only [ownFree]; rw [if_neg hne]; exact h2, h3⟩

theorem rows_window {m0 : Mem} {sz : Nat} {xs : List (List AV)} {c : Array Value} (h : Rows m sz xs c) (hle : m.le m0) (b : Nat) (hb : ∀ o, m0.imm b o = c[o]?) {off len : Nat} (hin : off + len ≤ xs.length) {cap : Nat} (hcap : len ≤ cap) :
    VRel m0 (.sl sz ((xs.drop off).take len) .no) (.slice (some ⟨b, off * sz, none⟩) len cap) := by
  have hlen : ((xs.drop off).take len).length = len := by simp; omega
  have hidx : ∀ i e, ((xs.drop off).take len)[i]? = some e → xs[off + i]? = some e := fun i e hi => by
    rw [List.getElem?_take] at hi
    split at hi
    · rw [List.getElem?_drop] at hi; exact hi
    · cases hi
  have key : ∀ (i : Nat) (e : List AV) (j : Nat) (x : AV), ((xs.drop off).take len)[i]? = some e → e[j]? = some x → c[off * sz + (i * sz + j)]? = some ((c[off * sz + (i * sz + j)]?).getD undef) ∧ VRel m x ((c[off * sz + (i * sz + j)]?).getD undef) ∧ x.one = true := fun i e j x hi hj => by
    obtain ⟨h1, cv, h2, h3⟩ := h.cell (off + i) e j x (hidx i e hi) hj
    rw [Nat.add_mul, Nat.add_assoc] at h2
    rw [h2]
    exact ⟨rfl, h3, h1⟩
  have : VRel m0 (.sl sz ((xs.drop off).take len) .no) (.slice (some ⟨b, off * sz, none⟩) ((xs.drop off).take len).length cap) := by
    refine .sl (fun k => (c[off * sz + k]?).getD undef) (fun e he => h.len e (List.mem_of_mem_drop (List.mem_of_mem_take he))) (by rw [hlen]; exact hcap) (fun i e j x hi hj => ?_) (fun i e j x hi hj => ?_) trivial
    · obtain ⟨h1, h2, h3⟩ := key i e j x hi hj
      rw [hb]
      exact ⟨h1, h3⟩
    · exact (key i e j x hi hj).2.1.mono hle
  rw [hlen] at this
  exact this

theorem Fr.swap {own : Nat → Option Own} {L : Nat → Option (Nat × Nat)} {B : Nat} {H : Array Obj} {env : Env} {loc : Loc} {tmps : Array Value}
    (F : Fr m own L B H env loc tmps) {t : Nat} {v : AV} {cv : Value} (hc : tmps[t]? = some cv) (h : ERel m L v cv) (hw : ∀ d, v.names = some d → loc d ≠ none) : Fr m own L B H (env.set t (some v)) loc tmps := by
  refine ⟨fun k u hu => ?_, F.rloc, fun k u d hu hd => ?_⟩
  · simp only [Env.set] at hu
    split at hu
    · rename_i e
      subst e
      injection hu with hu
      subst hu
      exact ⟨cv, hc, h⟩
    · exact F.renv k u hu
  · simp only [Env.set] at hu
    split at hu
    · injection hu with hu
      subst hu
      exact hw d hd
    · exact F.wf k u d hu hd

theorem frzl {t d sz off len : Nat} {xs : List (List AV)} (S : Sim N E m own L s a w) (ht : s.env t = some (.lm d sz off len)) (hl : s.loc d = some (.arr sz xs)) (hin : off + len ≤ xs.length) :
    ∃ m' own', Sim N E m' own' L ⟨s.env.set t (some (.sl sz ((xs.drop off).take len) .no)), s.loc.set d (some .dead), s.h⟩ a w := by
  obtain ⟨cv, h1, h2⟩ := S.fr.renv t _ ht
  obtain ⟨b, sz', f1, f2, f3, rfl, c, ty, f4, f5⟩ := S.fr.rloc d _ hl (by simp)
  have hcv : ∃ cap, cv = .slice (some ⟨b, off * sz, none⟩) len cap ∧ len ≤ cap := by
    cases h2 with
    | plain h => cases h
    | lm _ _ cap h hc => rw [f1] at h; injection h with h; injection h with h h'; rw [h]; exact ⟨cap, rfl, hc⟩
  obtain ⟨cap, rfl, hcap⟩ := hcv
  obtain ⟨g1, g2⟩ := S.world.freeze f4 (fun o => S.world.immLoc b o d f2) ⟨fun _ _ h => h, List.Sublist.refl _⟩ S.world.nd (fun l o _ e => by rw [f2] at e; cases e) (fun t e => by rw [f2] at e; cases e)
  have hne : ∀ b', b' < E.H.size → b' ≠ b := fun b' hb' => by omega
  refine ⟨m.freeze b c, ownFree own b, S.size, S.defs, g2, ⟨S.ext.mem.trans g1, S.ext.size, fun b' hb' hf => ?_, S.ext.foot⟩, Fr.swap ⟨fun k v hv => ?_, fun d' o' ho' hdead => ?_, fun k v d' hv hn => ?_⟩ h1 (.plain (rows_window f5 g1 b (fun o => by simp [Mem.freeze]) hin hcap)) (fun d' hd' => by simp [AV.names] at hd'), S.out⟩
  · obtain ⟨k1, k2, k3⟩ := S.ext.keep b' hb' hf
    exact ⟨by simp only [ownFree]; rw [if_neg (hne b' hb')]; exact k1, k2, fun o => by simp only [Mem.freeze]; rw [if_neg (hne b' hb')]; exact k3 o⟩
  · obtain ⟨cu, e1, e2⟩ := S.fr.renv k v hv
    exact ⟨cu, e1, e2.mono g1 fun _ _ => rfl⟩
  · simp only [Loc.set] at ho'
    by_cases e : d' = d
    · subst e
      rw [if_pos rfl] at ho'
      injection ho' with ho'
      exact absurd ho'.symm hdead
    · rw [if_neg e] at ho'
      obtain ⟨b1, s1, e1, e2, e3, e4⟩ := S.fr.rloc d' o' ho' hdead
      have hb1 : b1 ≠ b := by
        rintro rfl
        rw [f2] at e2
        injection e2 with e2; injection e2 with e2
        exact e e2.symm
      exact ⟨b1, s1, e1, by simp only [ownFree]; rw [if_neg hb1]; exact e2, e3, e4.mono g1⟩
  · simp only [Loc.set]
    split
    · simp
    · exact S.fr.wf k v d' hv hn

theorem frzh {t l sz off len cp : Nat} {xs : List (List AV)} (S : Sim N E m own L s a w) (ht : s.env t = some (.hm l sz off len cp)) (hl : s.h.os l = some (.arr sz xs)) (hin : off + len ≤ xs.length) :
    ∃ m' own', Sim N E m' own' L ⟨s.env.set t (some (.sl sz ((xs.drop off).take len) .no)), s.loc, s.h.set l none⟩ a w := by
  obtain ⟨cv, h1, h2⟩ := S.fr.renv t _ ht
  obtain ⟨b, sz', f1, f2, rfl, c, ty, f4, f5⟩ := S.world.obj l _ hl
  have hcv : cv = .slice (some ⟨b, off * sz, none⟩) len cp ∧ len ≤ cp := by
    cases h2 with
    | plain h =>
      cases h with
      | hm _ _ _ h hc => rw [f1] at h; injection h with h; injection h with h h'; rw [h]; exact ⟨rfl, hc⟩
  obtain ⟨rfl, hcap⟩ := hcv
  have hle : (s.h.set l none).le s.h := by
    refine ⟨fun l' o' ho' => ?_, List.Sublist.refl _⟩
    simp only [AHeap.set] at ho'
    split at ho'
    · cases ho'
    · exact ho'
  obtain ⟨g1, g2⟩ := S.world.freeze f4 (fun o => S.world.immObj b o l f2) hle S.world.nd (fun l' o' ho' e => by
    rw [f2] at e
    injection e with e; injection e with e
    subst e
    simp [AHeap.set] at ho') (fun t e => by rw [f2] at e; cases e)
  have hfoot : Foot m s.h b := .inl ⟨l, _, _, hl, f1⟩
  refine ⟨m.freeze b c, ownFree own b, S.size, S.defs, g2, (S.ext.trans ⟨g1, Nat.le_refl _, fun b' hb' hf => ?_, fun b' _ hf => Foot.drop hle hf⟩), (S.fr.mono g1 fun b' d hb => ⟨?_, rfl⟩).swap h1 (.plain (rows_window f5 g1 b (fun o => by simp [Mem.freeze]) hin hcap)) (fun d' hd' => by simp [AV.names] at hd'), S.out⟩
  · have hne : b' ≠ b := by rintro rfl; exact hf hfoot
    exact ⟨by simp only [ownFree]; rw [if_neg hne], rfl, fun o => by simp only [Mem.freeze]; rw [if_neg hne]⟩
  · have hne : b' ≠ b := by rintro rfl; rw [f2] at hb; cases hb
    simp only [ownFree]
    rw [if_neg hne]
    exact hb
end
end Abs

/- Abs14: append. -/
namespace Abs
open Go
section
variable {P : Program} {N : Nat} {E : Entry} {m : Mem} {own : Nat → Option Own} {L : Nat → Option (Nat × Nat)} {s : ASt} {a : Act} {w : World}

def kApp (P : Program) (sz mx : Nat) : Op → List Opd → Bool
  | .call { callee := .builtin .append, args := xs, argTypes := ts }, [x', y'] => (match xs.toList, ts.toList with
    | [x, y], [t, t'] => t == t' && opdOk x x' && opdOk y y' && (match P.underlying t with
      | some (.slice e) => (match P.info? e with
        | some i => i.size == sz && decide (0 < sz) && (match i.zero with | some z => z.cells.size == sz | none => false) && decide (mx * i.bytes ≤ 140737488355328) && decide (mx ≤ 9223372036854775807)
        | none => false)
      | _ => false)
    | _, _ => false)
  | _, _ => false

/-- Elements of one length, flat. -/
def flat (sz : Nat) (n : Nat) (f : Nat → Value) : List Value := (List.range (n * sz)).map f

theorem flat_get {sz n : Nat} {f : Nat → Value} {j : Nat} {v : Value} (h : (flat sz n f)[j]? = some v) : j < n * sz ∧ v = f j := by
  unfold flat at h
  rw [List.getElem?_map] at h
  cases hr : (List.range (n * sz))[j]? with
  | none => simp [hr] at h
  | some k =>
    simp [hr] at h
    have h1 := (List.getElem?_eq_some_iff.1 hr)
    obtain ⟨h2, h3⟩ := h1
    simp at h2 h3
    subst h3
    exact ⟨h2, h.symm⟩

theorem flat_in {sz n : Nat} (f : Nat → Value) {j : Nat} (h : j < n * sz) : (flat sz n f)[j]? = some (f j) := by
  unfold flat
  rw [List.getElem?_map, List.getElem?_range h]
  rfl

/-- What a slice's value is, opened. -/
theorem sl_open2 {sz : Nat} {xs : List (List AV)} {t : Tag} {cv : Value} (h : VRel m (.sl sz xs t) cv) :
    (∃ ad, cv = .slice (some ad) 0 0 ∧ xs = [] ∧ (t = .full ∨ t = .no)) ∨ (∃ (b o cap : Nat) (f : Nat → Value), cv = .slice (some ⟨b, o, none⟩) xs.length cap ∧ xs.length ≤ cap ∧ (∀ e ∈ xs, e.length = sz) ∧ TagOk m t b o xs.length cap sz ∧
      ∀ j, j < xs.length * sz → m.imm b (o + j) = some (f j) ∧ ∃ (i : Nat) (e : List AV) (k : Nat) (x : AV), xs[i]? = some e ∧ e[k]? = some x ∧ j = i * sz + k ∧ VRel m x (f j) ∧ x.one = true) := by
  cases h with
  | @sl _ _ _ b o cap f hs hc hh hr ht =>
    refine .inr ⟨b, o, cap, f, rfl, hc, hs, ht, fun j hj => ?_⟩
    have hsz : 0 < sz := by
      rcases Nat.eq_zero_or_pos sz with h0 | h0
      · subst h0; simp at hj
      · exact h0
    have hi : j / sz < xs.length := Nat.div_lt_of_lt_mul (by rw [Nat.mul_comm]; exact hj)
    have hk : j % sz < (xs[j / sz]).length := by rw [hs _ (List.getElem_mem hi)]; exact Nat.mod_lt _ hsz
    have hdm : j / sz * sz + j % sz = j := by rw [Nat.mul_comm]; exact Nat.div_add_mod j sz
    have h1 := hh (j / sz) _ (j % sz) _ (List.getElem?_eq_getElem hi) (List.getElem?_eq_getElem hk)
    have h2 := hr (j / sz) _ (j % sz) _ (List.getElem?_eq_getElem hi) (List.getElem?_eq_getElem hk)
    rw [hdm] at h1 h2
    exact ⟨h1.1, j / sz, _, j % sz, _, List.getElem?_eq_getElem hi, List.getElem?_eq_getElem hk, hdm.symm, h2, h1.2⟩
  | sl0 ad ht => exact .inl ⟨ad, rfl, rfl, ht⟩
theorem sl_open {sz : Nat} {xs : List (List AV)} {t : Tag} {cv : Value} (h : VRel m (.sl sz xs t) cv) (hne : xs ≠ []) :
    ∃ (b o cap : Nat) (f : Nat → Value), cv = .slice (some ⟨b, o, none⟩) xs.length cap ∧ xs.length ≤ cap ∧ (∀ e ∈ xs, e.length = sz) ∧ TagOk m t b o xs.length cap sz ∧
      ∀ j, j < xs.length * sz → m.imm b (o + j) = some (f j) ∧ ∃ (i : Nat) (e : List AV) (k : Nat) (x : AV), xs[i]? = some e ∧ e[k]? = some x ∧ j = i * sz + k ∧ VRel m x (f j) ∧ x.one = true := by
  rcases sl_open2 h with ⟨_, _, h0, _⟩ | h
  · exact absurd h0 hne
  · exact h
theorem sl_any {sz : Nat} {xs : List (List AV)} {t : Tag} {cv : Value} (h : VRel m (.sl sz xs t) cv) : ∃ ad cap, cv = .slice (some ad) xs.length cap ∧ xs.length ≤ cap := by
  rcases sl_open2 h with ⟨ad, h1, rfl, _⟩ | ⟨b, o, cap, f, h1, h2, _⟩
  · exact ⟨ad, 0, h1, Nat.le_refl _⟩
  · exact ⟨_, cap, h1, h2⟩

/-- A slice's value, put together again. -/
theorem sl_mk {sz : Nat} {xs : List (List AV)} {t : Tag} {b cap : Nat} (f : Nat → Value) (hs : ∀ e ∈ xs, e.length = sz) (hc : xs.length ≤ cap) (ht : TagOk m t b 0 xs.length cap sz)
    (h : ∀ (i : Nat) (e : List AV) (k : Nat) (x : AV), xs[i]? = some e → e[k]? = some x → m.imm b (i * sz + k) = some (f (i * sz + k)) ∧ VRel m x (f (i * sz + k)) ∧ x.one = true) :
    VRel m (.sl sz xs t) (.slice (some ⟨b, 0, none⟩) xs.length cap) :=
  .sl f hs hc (fun i e j c hi hj => by rw [Nat.zero_add]; exact ⟨(h i e j c hi hj).1, (h i e j c hi hj).2.2⟩) (fun i e j c hi hj => (h i e j c hi hj).2.1) ht

theorem idx_lt {sz : Nat} {xs : List (List AV)} (hs : ∀ e ∈ xs, e.length = sz) {i : Nat} {e : List AV} {k : Nat} {x : AV} (hi : xs[i]? = some e) (hk : e[k]? = some x) : i < xs.length ∧ k < sz ∧ i * sz + k < xs.length * sz := by
  have h1 := (List.getElem?_eq_some_iff.1 hi).1
  have h2 := (List.getElem?_eq_some_iff.1 hk).1
  rw [hs e (List.mem_of_getElem? hi)] at h2
  have : (i + 1) * sz ≤ xs.length * sz := Nat.mul_le_mul_right sz h1
  rw [Nat.add_mul, Nat.one_mul] at this
  exact ⟨h1, h2, by omega⟩

/-- The old and the new elements, by two flat functions. -/
theorem app_cells {sz : Nat} {xs ys : List (List AV)} (hs : ∀ e ∈ xs, e.length = sz) (hs' : ∀ e ∈ ys, e.length = sz) {f g : Nat → Value} {m0 : Mem} (l0 : m.le m0)
    (hf : ∀ j, j < xs.length * sz → ∃ (i : Nat) (e : List AV) (k : Nat) (x : AV), xs[i]? = some e ∧ e[k]? = some x ∧ j = i * sz + k ∧ VRel m x (f j) ∧ x.one = true)
    (hg : ∀ j, j < ys.length * sz → ∃ (i : Nat) (e : List AV) (k : Nat) (x : AV), ys[i]? = some e ∧ e[k]? = some x ∧ j = i * sz + k ∧ VRel m x (g j) ∧ x.one = true)
    {i : Nat} {e : List AV} {k : Nat} {x : AV} (hi : (xs ++ ys)[i]? = some e) (hk : e[k]? = some x) :
    (i * sz + k < xs.length * sz ∧ VRel m0 x (f (i * sz + k)) ∧ x.one = true) ∨
    (∃ j, i * sz + k = xs.length * sz + j ∧ j < ys.length * sz ∧ VRel m0 x (g j) ∧ x.one = true) := by
  have uniq : ∀ {i i' k k' : Nat}, k < sz → k' < sz → i * sz + k = i' * sz + k' → i = i' ∧ k = k' := fun {i i' k k'} h1 h2 h3 => by
    have h0 : 0 < sz := by omega
    have e1 : (i * sz + k) / sz = i := by rw [Nat.mul_comm, Nat.mul_add_div h0, Nat.div_eq_of_lt h1, Nat.add_zero]
    have e2 : (i' * sz + k') / sz = i' := by rw [Nat.mul_comm, Nat.mul_add_div h0, Nat.div_eq_of_lt h2, Nat.add_zero]
    rw [h3, e2] at e1
    subst e1
    exact ⟨rfl, by omega⟩
  by_cases hlt : i < xs.length
  · left
    rw [List.getElem?_append_left hlt] at hi
    obtain ⟨_, h2, h3⟩ := idx_lt hs hi hk
    obtain ⟨i', e', k', x', h4, h5, h6, h7, h8⟩ := hf _ h3
    obtain ⟨_, h9, _⟩ := idx_lt hs h4 h5
    obtain ⟨rfl, rfl⟩ := uniq h2 h9 h6
    rw [hi] at h4
    injection h4 with h4
    subst h4
    rw [hk] at h5
    injection h5 with h5
    subst h5
    exact ⟨h3, h7.mono l0, h8⟩
  · right
    rw [List.getElem?_append_right (by omega)] at hi
    obtain ⟨_, h2, h3⟩ := idx_lt hs' hi hk
    obtain ⟨i', e', k', x', h4, h5, h6, h7, h8⟩ := hg _ h3
    obtain ⟨_, h9, _⟩ := idx_lt hs' h4 h5
    obtain ⟨h10, rfl⟩ := uniq h2 h9 h6
    subst h10
    rw [hi] at h4
    injection h4 with h4
    subst h4
    rw [hk] at h5
    injection h5 with h5
    subst h5
    refine ⟨(i - xs.length) * sz + k, ?_, h3, h7.mono l0, h8⟩
    have : i * sz = xs.length * sz + (i - xs.length) * sz := by rw [← Nat.add_mul]; congr 1; omega
    omega

theorem w_app {o : Oper} {x : List Opd} {sz mx : Nat} {vx vy : AV} {xs ys : List (List AV)} {tg : Tag} (S : Sim N E m own L s a w) (hk : kApp P sz mx o.op x = true) (hx : s.evs x = some [vx, vy])
    (h1 : (vx = .nils ∧ xs = [] ∧ tg = .full) ∨ vx = .sl sz xs tg) (h2 : (vy = .nils ∧ ys = []) ∨ ∃ tg', vy = .sl sz ys tg') {dst : Option Nat} (hd : dstOk N o dst = true) {K : ASt → Prop}
    (hK0 : ys = [] → K ⟨s.env.put dst (some vx), s.loc, s.h⟩)
    (hK1 : ys ≠ [] → xs.length + ys.length ≤ mx ∧ tg ≠ .no ∧ (∀ t, tg = .tok t → t ∈ s.h.al) ∧
      ∀ t, t ∉ s.h.al → K ⟨s.env.put dst (some (.sl sz (xs ++ ys) (.tok t))), s.loc, { s.h with al := t :: tg.spend s.h.al }⟩) {Q : Exit → Act → World → Prop} :
    o.wp P a w (SimK N E K) Q := by
  unfold kApp at hk
  split at hk
  · rename_i xa ta x' y' ho
    split at hk
    · rename_i X Y t t' hxa hta
      simp only [Bool.and_eq_true, beq_iff_eq] at hk
      obtain ⟨⟨⟨rfl, hX⟩, hY⟩, ht⟩ := hk
      have e1 : xa = #[X, Y] := by rw [← Array.toArray_toList (xs := xa), hxa]
      have e2 : ta = #[t, t] := by rw [← Array.toArray_toList (xs := ta), hta]
      subst e1; subst e2
      obtain ⟨u, u', g1, g2, g3⟩ := evs_two hx
      injection g3 with g3 g4; injection g4 with g4 _
      subst g3; subst g4
      have hpx : vx.plain = true := by rcases h1 with ⟨rfl, _⟩ | rfl <;> rfl
      have hpy : vy.plain = true := by rcases h2 with ⟨rfl, _⟩ | ⟨_, rfl⟩ <;> rfl
      have rx := (ev_sound S hX g1).toV hpx
      have ry := (ev_sound S hY g2).toV hpy
      split at ht
      · rename_i e hu
        split at ht
        · rename_i i hi
          simp only [Bool.and_eq_true, beq_iff_eq, decide_eq_true_eq] at ht
          obtain ⟨⟨⟨⟨hsz, hpos⟩, hz⟩, hbytes⟩, hmx⟩ := ht
          have hz : ∃ z, i.zero = some z ∧ z.cells.size = sz := by
            split at hz
            · rename_i z h; exact ⟨z, h, by simpa using hz⟩
            · cases hz
          obtain ⟨z, hz0, hzs⟩ := hz
          have lift : ∀ cv w', (Builtin.append_ #[t, t] o.type #[a.eval X, a.eval Y]).run P w = .ok cv w' → (execOp a.eval o).run P w = .ok (.value cv) w' := fun cv w' hr => by
            unfold execOp
            simp only [ho]
            simp [resolve, invoke, builtin, hr]
          by_cases hys : ys = []
          · -- nothing is appended
            have hcv : (Builtin.append_ #[t, t] o.type #[a.eval X, a.eval Y]).run P w = .ok (a.eval X) w := by
              have hyv : ∃ ad c, a.eval Y = .slice ad 0 c := by
                rcases h2 with ⟨rfl, _⟩ | ⟨tg', rfl⟩
                · generalize a.eval Y = cy at ry
                  cases ry; exact ⟨_, _, rfl⟩
                · obtain ⟨ad, cap, e3, _⟩ := sl_any ry
                  rw [e3, hys]; exact ⟨_, _, rfl⟩
              obtain ⟨ad, c, hyv⟩ := hyv
              have hxv : ∃ ad n c, a.eval X = .slice ad n c ∧ n ≤ c := by
                rcases h1 with ⟨rfl, _⟩ | rfl
                · generalize a.eval X = cx at rx
                  cases rx; exact ⟨_, _, _, rfl, Nat.le_refl _⟩
                · obtain ⟨ad, cap, e3, e4⟩ := sl_any rx
                  rw [e3]; exact ⟨_, _, _, rfl, e4⟩
              obtain ⟨ad', n, c', hxv, hle⟩ := hxv
              rw [hyv, hxv]
              have hfc : (Builtin.firstCells i.size 0 (.slice ad 0 c)).run P w = .ok #[] w := by
                cases ad with
                | none => rfl
                | some ad => simp [Builtin.firstCells, loadCells, loadCellsFrom]
              cases ad' <;> simp [Builtin.append_, run_underlying hu, Go.sizeOf, typeInfo, hi, Builtin.lenOf, hle, hfc, storeCells]
            exact wp_value (lift _ _ hcv) (S.step (L' := L) hd S.world S.ext S.fr (.plain rx) (plain_names hpx) (hK0 hys))
          · -- something is
            obtain ⟨hbd, htg, hal, hK⟩ := hK1 hys
            obtain ⟨tg', rfl⟩ : ∃ tg', vy = .sl sz ys tg' := by
              rcases h2 with ⟨_, h⟩ | h
              · exact absurd h hys
              · exact h
            obtain ⟨by_, qy, capy, g, ey, _, hsy, _, hgy⟩ := sl_open ry hys
            have hk0 : 0 < ys.length := List.length_pos_iff.2 hys
            have hnl : (flat sz ys.length g).length = ys.length * i.size := by rw [hsz]; simp [flat]
            have hnews : ∀ j v, (flat sz ys.length g)[j]? = some v → w.cell? ((⟨by_, qy, none⟩ : Addr).add j) = some v := fun j v hj => by
              obtain ⟨hlt, rfl⟩ := flat_get hj
              rw [Addr.add_lit, cell_eq]
              exact S.world.imm _ _ _ (hgy j hlt).1
            have hone : ∀ u ∈ flat sz ys.length g, u.oneCell' = true := fun u hu => by
              obtain ⟨j, hj⟩ := List.getElem?_of_mem hu
              obtain ⟨hlt, rfl⟩ := flat_get hj
              obtain ⟨_, _, _, _, x0, _, _, _, h8, h9⟩ := hgy j hlt
              exact h8.oneCell h9
            have hneed : (xs.length + ys.length) * i.bytes ≤ 140737488355328 := Nat.le_trans (Nat.mul_le_mul_right _ hbd) hbytes
            -- the new block
            have grown : ∀ (f : Nat → Value) (old : Nat) (al : List Nat), (∀ e ∈ xs, e.length = sz) →
                (∀ j, j < xs.length * sz → ∃ (i : Nat) (e : List AV) (k : Nat) (x : AV), xs[i]? = some e ∧ e[k]? = some x ∧ j = i * sz + k ∧ VRel m x (f j) ∧ x.one = true) →
                al = tg.spend s.h.al →
                (Builtin.append_ #[t, t] o.type #[a.eval X, a.eval Y]).run P w = .ok (.slice (some ⟨w.heap.size, 0, none⟩) (xs.length + ys.length) (grownCap w (xs.length + ys.length) old e))
                  (w.drew.alloc (.cells ((flat sz xs.length f).toArray ++ (flat sz ys.length g).toArray ++ Builtin.zeroCells z.cells (grownCap w (xs.length + ys.length) old e - (xs.length + ys.length))) e)) →
                o.wp P a w (SimK N E K) Q := fun f old al hsx hfx hal' hr => by
              have hge := grownCap_ge w (xs.length + ys.length) old e
              have hsub : al.Sublist s.h.al := by
                rw [hal']
                cases tg with
                | tok u => exact List.erase_sublist
                | no => exact List.Sublist.refl _
                | full => exact List.Sublist.refl _
              have hcs : ((flat sz xs.length f).toArray ++ (flat sz ys.length g).toArray ++ Builtin.zeroCells z.cells (grownCap w (xs.length + ys.length) old e - (xs.length + ys.length))).size = grownCap w (xs.length + ys.length) old e * sz := by
                simp only [Array.size_append, List.size_toArray, size_zeroCells, hzs, flat, List.length_map, List.length_range, ← Nat.add_mul]
                congr 1
                omega
              generalize hcdef : (flat sz xs.length f).toArray ++ (flat sz ys.length g).toArray ++ Builtin.zeroCells z.cells (grownCap w (xs.length + ys.length) old e - (xs.length + ys.length)) = c at hr hcs
              have hcap_e : (xs.length + ys.length) * sz ≤ grownCap w (xs.length + ys.length) old e * sz := Nat.mul_le_mul_right _ hge
              obtain ⟨w1, x1⟩ := S.world.newTok c e ⟨w.heap.size, (xs.length + ys.length) * sz, grownCap w (xs.length + ys.length) old e, sz⟩ rfl (by simp only; omega) hcap_e al hsub
              have hcg : ∀ j, j < xs.length * sz → c[j]? = some (f j) := fun j hj => by
                rw [← hcdef, Array.append_assoc, Array.getElem?_append_left (by simp [flat]; omega), List.getElem?_toArray]
                exact flat_in f hj
              have hcg2 : ∀ j, j < ys.length * sz → c[xs.length * sz + j]? = some (g j) := fun j hj => by
                rw [← hcdef, Array.append_assoc, Array.getElem?_append_right (by simp [flat]), Array.getElem?_append_left (by simp [flat]; omega), List.getElem?_toArray]
                have : xs.length * sz + j - (flat sz xs.length f).toArray.size = j := by simp [flat]
                rw [this]
                exact flat_in g hj
              refine wp_value (lift _ _ hr) (S.step (L' := L) (v := .sl sz (xs ++ ys) (.tok m.nx)) (h' := { s.h with al := m.nx :: al }) hd w1 (S.ext.trans x1) (S.fr.mono x1.mem fun b d hb => ?_) (.plain ?_) (fun d hd => by simp [AV.names] at hd) ?_)
              · have hlt := S.world.lt _ _ hb
                exact ⟨by simp only [ownSet]; rw [if_neg (by omega)]; exact hb, push_old _ _ _ hlt⟩
              · have hln : (xs ++ ys).length = xs.length + ys.length := List.length_append
                have := sl_mk (m := (m.addImm w.heap.size c ((xs.length + ys.length) * sz)).addTok m.nx ⟨w.heap.size, (xs.length + ys.length) * sz, grownCap w (xs.length + ys.length) old e, sz⟩)
                  (sz := sz) (xs := xs ++ ys) (t := .tok m.nx) (b := w.heap.size) (cap := grownCap w (xs.length + ys.length) old e) (fun j => (c[j]?).getD undef)
                  (fun e he => by rcases List.mem_append.1 he with h | h; exact hsx e h; exact hsy e h) (by omega) ⟨by simp only [Mem.addTok, if_true, hln], rfl⟩ (fun i e' k x hi' hk' => ?_)
                · rw [hln] at this; exact this
                · have hin : i * sz + k < (xs.length + ys.length) * sz := by
                    have := (idx_lt (fun e he => by rcases List.mem_append.1 he with h | h; exact hsx e h; exact hsy e h) hi' hk').2.2
                    rw [hln] at this; exact this
                  have himm : ((m.addImm w.heap.size c ((xs.length + ys.length) * sz)).addTok m.nx ⟨w.heap.size, (xs.length + ys.length) * sz, grownCap w (xs.length + ys.length) old e, sz⟩).imm w.heap.size (i * sz + k) = c[i * sz + k]? := by
                    simp only [Mem.addTok, Mem.addImm, if_true]
                    rw [if_pos hin]
                  show _ = some ((c[i * sz + k]?).getD undef) ∧ VRel _ x ((c[i * sz + k]?).getD undef) ∧ _
                  rw [himm]
                  rcases app_cells hsx hsy x1.mem hfx (fun j hj => (hgy j hj).2) hi' hk' with ⟨h3, h4, h5⟩ | ⟨j, h3, h4, h5, h6⟩
                  · rw [hcg _ h3]; exact ⟨rfl, h4, h5⟩
                  · rw [h3, hcg2 j h4]; exact ⟨rfl, h5, h6⟩
              · have := hK m.nx S.world.fresh.2.2.2
                rw [← hal'] at this
                exact this
            have h63 : ((xs.length + ys.length : Nat) : Int) ≤ 9223372036854775807 := by omega
            rw [ey] at grown
            rcases h1 with ⟨rfl, rfl, rfl⟩ | rfl
            · -- upon nil
              have hxv : a.eval X = .slice none 0 0 := by
                generalize a.eval X = cx at rx
                cases rx; rfl
              have hr := run_append_nil (P := P) (w := w) t o.type e i z hu hi hz0 ⟨by_, qy, none⟩ ys.length capy (flat sz ys.length g) hnl hnews hk0 (by omega) (by
                have : ys.length * i.bytes ≤ 140737488355328 := by simpa using hneed
                omega)
              rw [hxv] at grown
              refine grown (fun _ => undef) 0 s.h.al (fun e he => by simp at he) (fun j hj => by simp at hj) rfl ?_
              simpa [flat] using hr
            · rcases sl_open2 rx with ⟨adx, ex, rfl, htg'⟩ | ⟨bx, qx, capx, f, ex, hcx, hsx, hfx, hgx⟩
              · have hr := run_append_grow (P := P) (w := w) t o.type e i z hu hi hz0 adx 0 0 [] (by simp) (by simp) ⟨by_, qy, none⟩ ys.length capy (flat sz ys.length g) hnl hnews (by omega) (by simpa using h63) (growslice_fits (by omega) (by simpa using hneed))
                rw [ex] at grown
                refine grown (fun _ => undef) 0 _ (fun e he => by simp at he) (fun j hj => by simp at hj) rfl ?_
                simpa [flat] using hr
              rw [ex] at grown
              have holds : ∀ j v, (flat sz xs.length f)[j]? = some v → w.cell? ((⟨bx, qx, none⟩ : Addr).add j) = some v := fun j v hj => by
                obtain ⟨hlt, rfl⟩ := flat_get hj
                rw [Addr.add_lit, cell_eq]
                exact S.world.imm _ _ _ (hgx j hlt).1
              have hol : (flat sz xs.length f).length = xs.length * i.size := by rw [hsz]; simp [flat]
              by_cases hroom : xs.length + ys.length ≤ capx
              · cases tg with
                | no => exact absurd rfl htg
                | full => simp only [TagOk] at hfx; omega
                | tok tt =>
                  obtain ⟨htk, rfl⟩ := hfx
                  obtain ⟨ti, j1, j2, c, ty, j3, j4, j5⟩ := S.world.tok tt (hal tt rfl)
                  rw [htk] at j1
                  injection j1 with j1
                  subst j1
                  simp only at j2 j3 j4 j5
                  have hfitn : xs.length * sz + ys.length * sz ≤ capx * sz := by rw [← Nat.add_mul]; exact Nat.mul_le_mul_right _ hroom
                  have hst := run_storeCells_at P bx (xs.length * sz) ty (flat sz ys.length g) 0 c w j3 (by rw [hnl, hsz]; omega) hone
                  simp only [Nat.add_zero] at hst
                  have hfc := run_firstCells_some (P := P) w i.size ys.length ⟨by_, qy, none⟩ ys.length capy (flat sz ys.length g) hnl hnews
                  rw [hsz] at hfc
                  have hwr := Wr.splice c (xs.length * sz) (flat sz ys.length g) (by rw [hnl, hsz]; omega)
                  generalize (c.toList.take (xs.length * sz) ++ flat sz ys.length g ++ c.toList.drop (xs.length * sz + (flat sz ys.length g).length)).toArray = c' at hst hwr
                  have hr : (Builtin.append_ #[t, t] o.type #[a.eval X, a.eval Y]).run P w = .ok (.slice (some ⟨bx, 0, none⟩) (xs.length + ys.length) capx) (w.setRow bx c') := by
                    rw [ex, ey]
                    simp [Builtin.append_, run_underlying hu, Go.sizeOf, typeInfo, hi, Builtin.lenOf, hroom, hfc, Addr.add_lit, hsz, hst]
                  obtain ⟨k1, k2, k3⟩ := setRow_facts w (c' := c') j3
                  have hold : ∀ q, q < xs.length * sz → c'[q]? = c[q]? := fun q hq => by rw [hwr.get, if_neg (by omega)]
                  obtain ⟨w1, x1⟩ := S.world.roomTok (H' := (w.setRow bx c').heap) (hal tt rfl) htk c c' ty (ys.length * sz) j3 k3 hwr.size hold k1 k2 hfitn
                  simp only at w1 x1
                  refine wp_value (lift _ _ hr) (S.step (L' := L) (v := .sl sz (xs ++ ys) (.tok m.nx)) (h' := { s.h with al := m.nx :: s.h.al.erase tt }) hd w1 (S.ext.trans x1) (S.fr.mono x1.mem fun b d hb => ?_) (.plain ?_) (fun d hd => by simp [AV.names] at hd) (hK m.nx S.world.fresh.2.2.2))
                  · have hne : b ≠ bx := by rintro rfl; rw [j2] at hb; cases hb
                    exact ⟨by simp only [ownSet]; rw [if_neg hne]; exact hb, k2 b hne⟩
                  · have hln : (xs ++ ys).length = xs.length + ys.length := List.length_append
                    have hall : ∀ e ∈ xs ++ ys, e.length = sz := fun e he => by rcases List.mem_append.1 he with h | h; exact hsx e h; exact hsy e h
                    have := sl_mk (m := (m.moreImm bx c' (xs.length * sz) (xs.length * sz + ys.length * sz)).addTok m.nx ⟨bx, xs.length * sz + ys.length * sz, capx, sz⟩)
                      (sz := sz) (xs := xs ++ ys) (t := .tok m.nx) (b := bx) (cap := capx) (fun j => if j < xs.length * sz then f j else g (j - xs.length * sz))
                      hall (by omega) ⟨by simp only [Mem.addTok, if_true, hln, Nat.add_mul], rfl⟩ (fun i e' k x hi' hk' => ?_)
                    · rw [hln] at this; exact this
                    · show _ = some (if i * sz + k < xs.length * sz then f (i * sz + k) else g (i * sz + k - xs.length * sz)) ∧ VRel _ x (if i * sz + k < xs.length * sz then f (i * sz + k) else g (i * sz + k - xs.length * sz)) ∧ _
                      rcases app_cells hsx hsy x1.mem (fun j hj => (hgx j hj).2) (fun j hj => (hgy j hj).2) hi' hk' with ⟨h3, h4, h5⟩ | ⟨j, h3, h4, h5, h6⟩
                      · rw [if_pos h3]
                        refine ⟨?_, h4, h5⟩
                        have := (hgx _ h3).1
                        rw [Nat.zero_add] at this
                        exact x1.mem.imm _ _ _ this
                      · rw [if_neg (by omega), h3, Nat.add_sub_cancel_left]
                        refine ⟨?_, h5, h6⟩
                        simp only [Mem.addTok, Mem.moreImm]
                        rw [if_pos ⟨trivial, by omega, by omega⟩, hwr.get, if_pos ⟨by omega, by rw [hnl, hsz]; omega⟩, Nat.add_sub_cancel_left]
                        exact flat_in g h4
              · have hr := run_append_grow (P := P) (w := w) t o.type e i z hu hi hz0 ⟨bx, qx, none⟩ xs.length capx (flat sz xs.length f) hol holds ⟨by_, qy, none⟩ ys.length capy (flat sz ys.length g) hnl hnews (by omega) h63 (growslice_fits (by omega) hneed)
                exact grown f capx _ hsx (fun j hj => (hgx j hj).2) rfl hr
        · cases ht
      · cases ht
    · cases hk
  · cases hk
end
end Abs
