/-
  An evaluator of the model's code over an abstract memory (named blocks with typed content), in continuation-passing style.
  Definitions alone; the soundness proof stands in EvSound.
-/
import Derived.Calls
import Derived.Orders
import Derived.Laws.Cells
import Derived.Laws.IdiomCopy
import Derived.Laws.Closers25b
namespace Go.Ev

/-! ### Values -/

inductive V where
  | dead
  | bool (b : Bool)
  | int (k : IntKind) (n : Int)
  | str (l : List Int)
  | nilptr
  | ptr (b base ext : Nat) (off : Int) (sz : Nat)
  | rptr (b : Nat) (i off : Int) (sz : Nat)
  | nilsl
  | own (b : Nat)
  | sl (b : Nat) (off len : Int)
  | nilfn
  | fn (f : FuncId) (first cap : List V)
  | niliface
  | iface (t : TypeId) (v : V)
  | ints (k : IntKind) (n : Nat) (l : List Int)
  | bools (n : Nat) (l : List Bool)
  | agg (vs : List V)
  | tuple (vs : List V)
  | row (k : IntKind) (l : List Int)
  | rows (k : IntKind) (n : Nat) (l : List (List Int))
  | brow (l : List Bool)
  | srow (l : List (List Int))
  deriving Inhabited

/-- A state: the frame's temporaries; the memory (a block's name is its place; writable?, content). -/
structure St where
  t : List V
  m : List (Option (Bool × V))

def tget : List V → Nat → V
  | [], _ => .dead
  | v :: _, 0 => v
  | _ :: r, i + 1 => tget r i
def mget : List (Option (Bool × V)) → Nat → Option (Bool × V)
  | [], _ => none
  | x :: _, 0 => x
  | _ :: r, i + 1 => mget r i
abbrev St.tv (s : St) (i : Nat) : V := tget s.t i
abbrev St.mv (s : St) (b : Nat) : Option (Bool × V) := mget s.m b
abbrev St.nx (s : St) : Nat := s.m.length

/-! ### What stays in the printed functions -/

def lt {α β : Type} (x : α) (f : α → β) : β := f x
def hi0 {α : Type} (x : α) : α := x
def hi1 {α : Type} (x : α) : α := hi0 x
def hi2 {α : Type} (x : α) : α := hi1 x
def hi3 {α : Type} (x : α) : α := hi2 x
def hi4 {α : Type} (x : α) : α := hi3 x
def hi5 {α : Type} (x : α) : α := hi4 x
def hi6 {α : Type} (x : α) : α := hi5 x
def hi7 {α : Type} (x : α) : α := hi6 x
def hi8 {α : Type} (x : α) : α := hi7 x
/-- nothing but a height -/
def hi {α : Type} (x : α) : α := hi8 x
def up0 (b : Bool) : Bool := b
def up1 (b : Bool) : Bool := up0 b
def up2 (b : Bool) : Bool := up1 b
def up3 (b : Bool) : Bool := up2 b
/-- (Its height, and the next one's, is above that of the other words: so they are unfolded ahead of them.) -/
def br {α : Type} (b : Bool) (x y : α) : α := match up3 b with | true => x | false => y
def chk {α : Type} (b : Bool) (x : Option α) : Option α := match up3 b with | true => x | false => none
theorem br_match {α : Type} (b : Bool) (x y : α) : br b x y = match b with | true => x | false => y := rfl
theorem br_true {α : Type} (x y : α) : br true x y = x := rfl
theorem br_false {α : Type} (x y : α) : br false x y = y := rfl
theorem chk_true {α : Type} (x : Option α) : chk true x = x := rfl
theorem chk_false {α : Type} (x : Option α) : chk false x = none := rfl
def obind {α β : Type} (x : Option α) (f : α → Option β) : Option β := match x with | some a => f a | none => none
/-- either way -/
def sel {α β γ : Type} (x : α ⊕ β) (f : α → γ) (g : β → γ) : γ := match x with | .inl a => f a | .inr b => g b
def iter {S R : Type} : Nat → (S → Option (S ⊕ R)) → S → Option R
  | 0, _, _ => none
  | k + 1, f, s => match f s with
    | none => none
    | some (.inl s') => iter k f s'
    | some (.inr r) => some r

/-- how many rounds a loop may take -/
def K : Nat := 1000000
/-- no list or text grows past this -/
def maxLength : Nat := 10000000000
/-- no length is past this -/
def maxInt : Nat := 4611686018427387904

def ibit (op : BinOp) (k : IntKind) (x y : Int) : Int :=
  match op with
  | .and => k.wrap (BitVec.ofInt k.bits x &&& BitVec.ofInt k.bits y).toNat
  | .or => k.wrap (BitVec.ofInt k.bits x ||| BitVec.ofInt k.bits y).toNat
  | .xor => k.wrap (BitVec.ofInt k.bits x ^^^ BitVec.ofInt k.bits y).toNat
  | _ => k.wrap (BitVec.ofInt k.bits x &&& ~~~BitVec.ofInt k.bits y).toNat
def ishl (k : IntKind) (x y : Int) : Int := k.wrap (x * 2 ^ min y.toNat k.bits)
def ishr (k : IntKind) (x y : Int) : Int := x.fdiv (2 ^ min y.toNat k.bits)
def at0 (l : List Int) (i : Nat) : Int := l.getD i 0
def atb (l : List Bool) (i : Nat) : Bool := l.getD i false
def atl (l : List (List Int)) (i : Nat) : List Int := l.getD i []
def cut {α : Type} (l : List α) (i n : Nat) : List α := (l.drop i).take n
def paste {α : Type} (l : List α) (i : Nat) (x : List α) : List α := l.take i ++ x ++ l.drop (i + x.length)
/-- an index times an element's size -/
def scale (i : Int) (es : Nat) : Int := match es with | 1 => i | es => i * es
/-- a + b, with a 0 that is seen left out -/
def addz (a b : Int) : Int := match a with | .ofNat 0 => b | _ => a + b

/-! ### Codecs -/

inductive Cd where
  | int (k : IntKind) | bool | str
  | ints (k : IntKind) (n : Nat) | bools (n : Nat)
  | row (k : IntKind) | rows (k : IntKind) (n : Nat) | brow | srow
  | agg (l : List Cd)

mutual
def Cd.T : Cd → Type
  | .int _ => Int | .bool => Bool | .str => List Int
  | .ints _ _ => List Int | .bools _ => List Bool
  | .row _ => List Int | .rows _ _ => List (List Int) | .brow => List Bool | .srow => List (List Int)
  | .agg l => Cd.TL l
def Cd.TL : List Cd → Type
  | [] => Unit
  | c :: cs => c.T × Cd.TL cs
end

mutual
def Cd.enc : (c : Cd) → c.T → V
  | .int k, x => .int k x
  | .bool, x => .bool x
  | .str, x => .str x
  | .ints k n, x => .ints k n x
  | .bools n, x => .bools n x
  | .row k, x => .row k x
  | .rows k n, x => .rows k n x
  | .brow, x => .brow x
  | .srow, x => .srow x
  | .agg l, x => .agg (Cd.encL l x)
def Cd.encL : (l : List Cd) → Cd.TL l → List V
  | [], _ => []
  | c :: cs, x => c.enc x.1 :: Cd.encL cs x.2
end

mutual
def Cd.dec : (c : Cd) → V → Option c.T
  | .int k, .int k' x => if k = k' then some x else none
  | .bool, .bool x => some x
  | .str, .str x => some x
  | .ints k n, .ints k' n' x => if k = k' then (if n = n' then some x else none) else none
  | .bools n, .bools n' x => if n = n' then some x else none
  | .row k, .row k' x => if k = k' then some x else none
  | .rows k n, .rows k' n' x => if k = k' then (if n = n' then some x else none) else none
  | .brow, .brow x => some x
  | .srow, .srow x => some x
  | .agg l, .agg vs => Cd.decL l vs
  | _, _ => none
def Cd.decL : (l : List Cd) → List V → Option (Cd.TL l)
  | [], [] => some ()
  | c :: cs, v :: vs => match c.dec v with
    | some x => match Cd.decL cs vs with
      | some y => some (x, y)
      | none => none
    | none => none
  | _, _ => none
end

/-- Content of a slice's block: all of it, or its first ones, or nothing. -/
def Cd.decN : (c : Cd) → V → Int → Option c.T
  | .row k, .row k' x, n => if k = k' then some (x.take n.toNat) else none
  | .rows k m, .rows k' m' x, n => if k = k' then (if m = m' then some (x.take n.toNat) else none) else none
  | .brow, .brow x, n => some (x.take n.toNat)
  | .srow, .srow x, n => some (x.take n.toNat)
  | _, _, _ => none
def Cd.dec0 : (c : Cd) → Option c.T
  | .row _ => some [] | .rows _ _ => some [] | .brow => some [] | .srow => some []
  | _ => none

mutual
/-- Surely the same value (of the few kinds that a loop leaves as they are). -/
def V.same : V → V → Bool
  | .nilptr, .nilptr => true
  | .nilfn, .nilfn => true
  | .niliface, .niliface => true
  | .nilsl, .nilsl => true
  | .own a, .own b => a == b
  | .ptr a b e (.ofNat 0) c, .ptr a' b' e' (.ofNat 0) c' => a == a' && (b == b' && (c == c' && e == e'))
  | .fn f a c, .fn g b d => f == g && (V.sameL a b && V.sameL c d)
  | _, _ => false
def V.sameL : List V → List V → Bool
  | [], [] => true
  | x :: xs, y :: ys => x.same y && V.sameL xs ys
  | _, _ => false
end

/-! ### Items: what a loop or a joined piece of code carries -/

/-- A part of a struct in memory: plain data, or a slice of its own (its block's name, its content). -/
inductive Pc where
  | v (c : Cd)
  | own (b : Nat) (c : Cd)
  | k (v : V)

def Pc.T : Pc → Type | .v c => c.T | .own _ c => c.T | .k _ => Unit
def Pcs.T : List Pc → Type
  | [] => Unit
  | p :: r => p.T × Pcs.T r

inductive It where
  | slot (i : Nat) (c : Cd)
  | own (i : Nat) (b : Nat) (c : Cd)
  | blk (b : Nat) (c : Cd)
  | blkS (b : Nat) (l : List Pc)
  | blkO (b : Nat) (n : Nat) (c : Cd)

def It.T : It → Type
  | .slot _ c => c.T | .own _ _ c => c.T | .blk _ c => c.T
  | .blkS _ l => Pcs.T l
  | .blkO _ _ c => c.T

def Its.T : List It → Type
  | [] => Unit
  | i :: r => i.T × Its.T r

/-- The owned slice's content that a value stands for, typed. -/
def ownOf (m : List (Option (Bool × V))) (c : Cd) : V → Option c.T
  | .nilsl => c.dec0
  | .own b => match mget m b with | some (true, v) => c.dec v | _ => none
  | .sl b (.ofNat 0) n => match mget m b with | some (true, v) => c.decN v n | _ => none
  | _ => none

def Pcs.dec (m : List (Option (Bool × V))) : (l : List Pc) → List V → Option (Pcs.T l)
  | [], [] => some ()
  | .v c :: r, v :: vs => match c.dec v with
    | some x => match Pcs.dec m r vs with | some y => some (x, y) | none => none
    | none => none
  | .own _ c :: r, v :: vs => match ownOf m c v with
    | some x => match Pcs.dec m r vs with | some y => some (x, y) | none => none
    | none => none
  | .k u :: r, v :: vs => match u.same v with
    | true => match Pcs.dec m r vs with | some y => some ((), y) | none => none
    | false => none
  | _, _ => none

def It.dec (s : St) : (i : It) → Option i.T
  | .slot i c => c.dec (s.tv i)
  | .own i _ c => ownOf s.m c (s.tv i)
  | .blk b c => match s.mv b with | some (true, v) => c.dec v | _ => none
  | .blkS b l => match s.mv b with | some (true, .agg vs) => Pcs.dec s.m l vs | _ => none
  | .blkO b _ c => match s.mv b with | some (true, v) => ownOf s.m c v | _ => none

def Its.dec (s : St) : (l : List It) → Option (Its.T l)
  | [] => some ()
  | i :: r => match i.dec s with
    | some x => match Its.dec s r with
      | some y => some (x, y)
      | none => none
    | none => none

def putT (s : St) (i : Nat) (v : V) : St := { s with t := s.t.set i v }
def putM (s : St) (b : Nat) (x : Option (Bool × V)) : St := { s with m := s.m.set b x }

def Pcs.vals : (l : List Pc) → Pcs.T l → List V
  | [], _ => []
  | .v c :: r, x => c.enc x.1 :: Pcs.vals r x.2
  | .own b _ :: r, x => .own b :: Pcs.vals r x.2
  | .k v :: r, x => v :: Pcs.vals r x.2
def Pcs.put (s : St) : (l : List Pc) → Pcs.T l → St
  | [], _ => s
  | .v _ :: r, x => Pcs.put s r x.2
  | .own b c :: r, x => Pcs.put (putM s b (some (true, c.enc x.1))) r x.2
  | .k _ :: r, x => Pcs.put s r x.2

def It.put (s : St) : (i : It) → i.T → St
  | .slot i c, x => putT s i (c.enc x)
  | .own i b c, x => putM (putT s i (.own b)) b (some (true, c.enc x))
  | .blk b c, x => putM s b (some (true, c.enc x))
  | .blkS b l, x => putM (Pcs.put s l x) b (some (true, .agg (Pcs.vals l x)))
  | .blkO b n c, x => putM (putM s n (some (true, c.enc x))) b (some (true, .own n))

def Its.put (s : St) : (l : List It) → Its.T l → St
  | [], _ => s
  | i :: r, x => Its.put (i.put s x.1) r x.2

def dropAt (l : List Nat) : Nat → List V → List V
  | _, [] => []
  | i, v :: r => (if l.contains i then .dead else v) :: dropAt l (i + 1) r
def dropL (l : List Nat) (s : St) : St := { s with t := dropAt l 0 s.t }
def lockX : Option (Bool × V) → Option (Bool × V)
  | some (_, v) => some (false, v)
  | none => none
def lockL : List (Option (Bool × V)) → List (Option (Bool × V))
  | [] => []
  | x :: r => lockX x :: lockL r
def lock (s : St) : St := { s with m := lockL s.m }

/-! ### Cells -/

/-- no row, no tuple, nothing dead -/
def V.flat : V → Bool
  | .dead | .tuple _ | .row _ _ | .rows _ _ _ | .brow _ | .srow _ => false
  | _ => true


mutual
def V.size : V → Nat
  | .ints _ n _ => n
  | .bools n _ => n
  | .agg vs => V.sizeL vs
  | _ => 1
def V.sizeL : List V → Nat
  | [] => 0
  | v :: vs => v.size + V.sizeL vs
end

def posn (base : Nat) (off : Int) : Nat := match base with | 0 => off.toNat | b + 1 => ((b + 1 : Nat) + off).toNat

section
variable {R : Type}

mutual
/-- The part of a content that begins at a cell (the cells from base on, ext of them, hold it). -/
def V.sub : V → (base ext : Nat) → (off : Int) → (ag : Bool) → (sz : Nat) → (V → Option R) → Option R
  | .ints k n l, base, _, off, ag, sz, K => match ag with
    | true => if sz = n then K (.ints k n l) else lt (cut l (posn base off) sz) fun x => K (.ints k sz x)
    | false => lt (at0 l (posn base off)) fun x => K (.int k x)
  | .bools n l, base, _, off, ag, sz, K => match ag with
    | true => if sz = n then K (.bools n l) else lt (cut l (posn base off) sz) fun x => K (.bools sz x)
    | false => lt (atb l (posn base off)) fun x => K (.bool x)
  | .agg vs, base, ext, off, ag, sz, K => if sz = V.sizeL vs ∧ ag = true then K (.agg vs) else V.subL vs base ext off ag sz K
  | .row k l, base, _, off, ag, sz, K => match ag with
    | true => lt (cut l (posn base off) sz) fun x => K (.ints k sz x)
    | false => lt (at0 l (posn base off)) fun x => K (.int k x)
  | .brow l, base, _, off, ag, _, K => match ag with
    | true => none
    | false => lt (atb l (posn base off)) fun x => K (.bool x)
  | .srow l, base, _, off, ag, _, K => match ag with
    | true => none
    | false => lt (atl l (posn base off)) fun x => K (.str x)
  | .rows _ _ _, _, _, _, _, _, _ => none
  | .dead, _, _, _, _, _, _ => none
  | .tuple _, _, _, _, _, _, _ => none
  | v, _, _, _, ag, _, K => match ag with
    | true => none
    | false => K v
def V.subL : List V → (base ext : Nat) → Int → Bool → Nat → (V → Option R) → Option R
  | [], _, _, _, _, _, _ => none
  | v :: vs, base, ext, off, ag, sz, K =>
    if base < v.size then
      (if base + ext ≤ v.size then V.sub v base ext off ag sz K
       else if v.size = 1 ∧ ag = false then br (decide (off = 0)) (V.sub v 0 1 0 ag 1 K) (V.subL vs 0 (ext - 1) (off - 1) ag sz K)
       else none)
    else V.subL vs (base - v.size) ext off ag sz K
end

mutual
/-- The content with a part put in. -/
def V.upd : V → (base ext : Nat) → (off : Int) → (x : V) → (V → Option R) → Option R
  | .ints k n l, base, _, off, x, K => match x with
    | .int k' z => if k = k' then lt (l.set (posn base off) z) fun l' => K (.ints k n l') else none
    | .ints k' m l' => if k = k' then (if m = n then K (.ints k n l') else lt (paste l (posn base off) l') fun l'' => K (.ints k n l'')) else none
    | _ => none
  | .bools n l, base, _, off, x, K => match x with
    | .bool z => lt (l.set (posn base off) z) fun l' => K (.bools n l')
    | .bools m l' => if m = n then K (.bools n l') else lt (paste l (posn base off) l') fun l'' => K (.bools n l'')
    | _ => none
  | .agg vs, base, ext, off, x, K => match x with
    | .agg ws => if V.sizeL ws = V.sizeL vs then K (.agg ws) else V.updL vs base ext off (.agg ws) fun vs' => K (.agg vs')
    | x => V.updL vs base ext off x fun vs' => K (.agg vs')
  | .row k l, base, _, off, x, K => match x with
    | .int k' z => if k = k' then lt (l.set (posn base off) z) fun l' => K (.row k l') else none
    | _ => none
  | .brow l, base, _, off, x, K => match x with
    | .bool z => lt (l.set (posn base off) z) fun l' => K (.brow l')
    | _ => none
  | .srow l, base, _, off, x, K => match x with
    | .str z => lt (l.set (posn base off) z) fun l' => K (.srow l')
    | _ => none
  | .rows _ _ _, _, _, _, _, _ => none
  | .dead, _, _, _, _, _ => none
  | .tuple _, _, _, _, _, _ => none
  | _, _, _, _, x, K => match x with
    | .ints _ _ _ | .bools _ _ | .agg _ | .dead | .tuple _ | .row _ _ | .rows _ _ _ | .brow _ | .srow _ => none
    | x => K x
def V.updL : List V → (base ext : Nat) → Int → V → (List V → Option R) → Option R
  | [], _, _, _, _, _ => none
  | v :: vs, base, ext, off, x, K =>
    if base < v.size then
      (if base + ext ≤ v.size then V.upd v base ext off x fun v' => K (v' :: vs)
       else if v.size = 1 ∧ x.size = 1 then br (decide (off = 0)) (V.upd v 0 1 0 x fun v' => K (v' :: vs)) (V.updL vs 0 (ext - 1) (off - 1) x fun vs' => K (v :: vs'))
       else none)
    else V.updL vs (base - v.size) ext off x fun vs' => K (v :: vs')
end
end

/-! ### Names -/

mutual
def V.names : V → List Nat
  | .ptr b _ _ _ _ | .rptr b _ _ _ | .own b | .sl b _ _ => [b]
  | .fn _ a c => V.namesL a ++ V.namesL c
  | .iface _ v => v.names
  | .agg vs | .tuple vs => V.namesL vs
  | _ => []
def V.namesL : List V → List Nat
  | [] => []
  | v :: vs => v.names ++ V.namesL vs
end

def reach (m : List (Option (Bool × V))) : Nat → List Nat → List Nat → List Nat
  | 0, _, acc => acc
  | _, [], acc => acc
  | f + 1, b :: r, acc => if acc.contains b then reach m f r acc else match mget m b with
    | some (_, v) => reach m f (v.names ++ r) (b :: acc)
    | none => reach m f r acc

/-! ### The environment -/

/-- A contract: from the arguments and the memory to the result, the new blocks' contents (at the next names), the blocks that are changed. -/
def Sig := ∀ R : Type, List V → List (Option (Bool × V)) → (V → List V → List (Nat × V) → Option R) → Option R

/-- Where a block is found: by a slot, a part of the block found, a captured variable, an interface's value. -/
inductive Rf where
  | slot (i : Nat)
  | part (r : Rf) (j : Nat)
  | cap (r : Rf) (j : Nat)
  | fst (r : Rf) (j : Nat)
  | dyn (r : Rf)

def Rf.val (s : St) : Rf → V
  | .slot i => s.tv i
  | .part r j => match r.val s with
    | .ptr b _ _ _ _ => match s.mv b with | some (_, .agg vs) => vs.getD j .dead | some (_, v) => v | _ => .dead
    | _ => .dead
  | .cap r j => match r.val s with | .fn _ _ c => c.getD j .dead | _ => .dead
  | .fst r j => match r.val s with | .fn _ c _ => c.getD j .dead | _ => .dead
  | .dyn r => match r.val s with | .iface _ v => v | _ => .dead

def Rf.blk (s : St) (r : Rf) : Nat := match r.val s with | .ptr b _ _ _ _ => b | .own b => b | .rptr b _ _ _ => b | .sl b _ _ => b | _ => 1000000000

inductive RPc where
  | v (c : Cd)
  | own (j : Nat) (c : Cd)
  | k
inductive RIt where
  | slot (i : Nat) (c : Cd)
  | own (i : Nat) (j : Nat) (c : Cd)
  | blk (r : Rf) (c : Cd)
  | blkS (r : Rf) (l : List RPc)
  | blkO (r : Rf) (j : Nat) (c : Cd)

def RPcs.abs (nx : Nat) : List RPc → List V → List Pc
  | .v c :: r, _ :: vs => .v c :: RPcs.abs nx r vs
  | .own j c :: r, _ :: vs => .own (nx + j) c :: RPcs.abs nx r vs
  | .k :: r, v :: vs => .k v :: RPcs.abs nx r vs
  | _, _ => []
def RIt.abs (s : St) : RIt → It
  | .slot i c => .slot i c
  | .own i j c => .own i (s.nx + j) c
  | .blk r c => .blk (r.blk s) c
  | .blkS r l => .blkS (r.blk s) (match s.mv (r.blk s) with | some (_, .agg vs) => RPcs.abs s.nx l vs | _ => [])
  | .blkO r j c => .blkO (r.blk s) (s.nx + j) c

structure Ann where
  items : List RIt
  outs : List (Exit × List RIt)
  fresh : Nat

structure Env where
  P : Program
  eqi : TypeId → Option (IntKind × Nat)
  eqb : TypeId → Option Nat
  zero : TypeId → Option V
  gsz : Nat → Nat
  gn : Nat
  gl : List (Option V)
  sig : FuncId → Option Sig
  k : Nat
  ann : List (List Nat × Ann)

def Env.size (E : Env) (t : TypeId) : Nat := match E.P.info? t with | some i => (match E.P.underlying t with | some _ => i.size | none => 0) | none => 0
def Env.bytes (E : Env) (t : TypeId) : Nat := match E.P.info? t with | some i => i.bytes | none => 0
def Env.und (E : Env) (t : TypeId) : TypeDesc := match E.P.underlying t with | some d => d | none => .invalid
def Env.agg (E : Env) (t : TypeId) : Bool := match E.und t with | .struct _ => true | .array _ _ => true | _ => false
def Env.getAnn (E : Env) (x : List Nat) : Option Ann := match E.ann.find? (·.1 == x) with | some (_, a) => some a | none => none

/-! ### Operands -/

def ofConst : Value → V
  | .bool b => .bool b
  | .int k n => if k.min ≤ n ∧ n ≤ k.max then .int k n else .dead
  | .string s => .str (s.data.toList.map fun b => (b.toNat : Int))
  | .pointer none => .nilptr
  | .slice none 0 0 => .nilsl
  | .nilFunc => .nilfn
  | .nilIface => .niliface
  | _ => .dead

def eopd (E : Env) (s : St) : Operand → V
  | .tmp t => s.tv t
  | .const v => ofConst v
  | .global g => match E.gsz g with | 0 => .dead | n => .ptr g 0 n 0 n
  | .func f => .fn f [] []

section
variable {R : Type}

/-! ### Operations without memory -/

def eBin (E : Env) (t : TypeId) (op : BinOp) (x y : V) (K : V → Option R) : Option R :=
  match x, y with
  | .int k a, .int k' b => match op with
    | .shl => chk (decide (0 ≤ b)) (lt (ishl k a b) fun z => K (.int k z))
    | .shr => chk (decide (0 ≤ b)) (lt (ishr k a b) fun z => K (.int k z))
    | .add => if k = k' then lt (k.wrap (a + b)) fun z => K (.int k z) else none
    | .sub => if k = k' then lt (k.wrap (a - b)) fun z => K (.int k z) else none
    | .mul => if k = k' then lt (k.wrap (a * b)) fun z => K (.int k z) else none
    | .quo => if k = k' then chk (decide (b ≠ 0)) (lt (k.wrap (a.tdiv b)) fun z => K (.int k z)) else none
    | .rem => if k = k' then chk (decide (b ≠ 0)) (lt (a.tmod b) fun z => K (.int k z)) else none
    | .eql => if k = k' then K (.bool (a == b)) else none
    | .neq => if k = k' then K (.bool (a != b)) else none
    | .lss => if k = k' then K (.bool (decide (a < b))) else none
    | .leq => if k = k' then K (.bool (decide (a ≤ b))) else none
    | .gtr => if k = k' then K (.bool (decide (a > b))) else none
    | .geq => if k = k' then K (.bool (decide (a ≥ b))) else none
    | .and => if k = k' then lt (ibit .and k a b) fun z => K (.int k z) else none
    | .or => if k = k' then lt (ibit .or k a b) fun z => K (.int k z) else none
    | .xor => if k = k' then lt (ibit .xor k a b) fun z => K (.int k z) else none
    | .andNot => if k = k' then lt (ibit .andNot k a b) fun z => K (.int k z) else none
  | .str a, .str b => match op with
    | .add => chk (decide (a.length + b.length ≤ maxLength)) (lt (a ++ b) fun z => K (.str z))
    | .eql => K (.bool (a == b))
    | .neq => K (.bool (!(a == b)))
    | _ => none
  | .bool a, .bool b => match E.und t with
    | .bool => match op with
      | .eql => K (.bool (a == b))
      | .neq => K (.bool (!(a == b)))
      | _ => none
    | _ => none
  | .ints k n a, .ints k' n' b => match E.eqi t with
    | some (k'', n'') => if k = k'' ∧ k' = k'' ∧ n = n'' ∧ n' = n'' then match op with
      | .eql => K (.bool (a == b))
      | .neq => K (.bool (!(a == b)))
      | _ => none
      else none
    | none => none
  | .bools n a, .bools n' b => match E.eqb t with
    | some n'' => if n = n'' ∧ n' = n'' then match op with
      | .eql => K (.bool (a == b))
      | .neq => K (.bool (!(a == b)))
      | _ => none
      else none
    | none => none
  | .ptr _ _ _ _ _, .nilptr => match E.und t with
    | .pointer _ => match op with
      | .eql => K (.bool false)
      | .neq => K (.bool true)
      | _ => none
    | _ => none
  | .nilptr, .nilptr => match E.und t with
    | .pointer _ => match op with
      | .eql => K (.bool true)
      | .neq => K (.bool false)
      | _ => none
    | _ => none
  | _, _ => none

def eUn (op : UnOp) (x : V) (K : V → Option R) : Option R :=
  match op, x with
  | .neg, .int k n => lt (k.wrap (0 - n)) fun z => K (.int k z)
  | .xor, .int k n => lt (ibit .xor k (if k.signed then -1 else k.max) n) fun z => K (.int k z)
  | .not, .bool b => K (.bool (!b))
  | _, _ => none

def ePick (c a b : V) (K : V → Option R) : Option R :=
  match c with
  | .bool c => match a, b with
    | .bool x, .bool y => K (.bool (br c x y))
    | a, b => br c (K a) (K b)
  | _ => none

/-! ### Addresses -/

/-- How many elements, and of which kind, an owned slice's content has. -/
def V.elems : V → Option (Int × Option Nat)
  | .row _ l => some (l.length, none)
  | .brow l => some (l.length, none)
  | .srow l => some (l.length, none)
  | .rows _ n l => some (l.length, some n)
  | .ints _ n _ => some (n, none)
  | .bools n _ => some (n, none)
  | _ => none

def eIndexAddr (E : Env) (s : St) (t : TypeId) (x i : V) (K : V → List Nat → Option R) : Option R :=
  match i with
  | .int _ i => match E.und t, x with
    | .array len elem, .ptr b base ext off sz =>
      let es := E.size elem
      if 0 < es ∧ len * es ≤ sz then chk (decide (0 ≤ i)) (chk (decide (i < len)) (K (.ptr b base ext (addz off (scale i es)) es) [])) else none
    | .array len elem, .rptr b r off sz =>
      let es := E.size elem
      if 0 < es ∧ len * es ≤ sz then chk (decide (0 ≤ i)) (chk (decide (i < len)) (K (.rptr b r (addz off (scale i es)) es) [])) else none
    | .slice elem, .own b => match s.mv b with
      | some (_, c) => match c.elems with
        | some (len, none) => if E.size elem = 1 then chk (decide (0 ≤ i)) (chk (decide (i < len)) (K (.ptr b 0 len.toNat i 1) [b])) else none
        | some (len, some n) => if n = E.size elem ∧ 0 < n then chk (decide (0 ≤ i)) (chk (decide (i < len)) (K (.rptr b i 0 n) [b])) else none
        | none => none
      | none => none
    | .slice elem, .sl b off len => match s.mv b with
      | some (_, c) => match c.elems with
        | some (n, none) => if E.size elem = 1 then chk (decide (0 ≤ i)) (chk (decide (i < len)) (K (.ptr b 0 n.toNat (addz off i) 1) [b])) else none
        | some (_, some n) => if n = E.size elem ∧ 0 < n then chk (decide (0 ≤ i)) (chk (decide (i < len)) (K (.rptr b (addz off i) 0 n) [b])) else none
        | none => none
      | none => none
    | _, _ => none
  | _ => none

def eFieldAddr (E : Env) (t : TypeId) (x : V) (f : Nat) (K : V → Option R) : Option R :=
  match E.und t with
  | .struct fs => match fs[f]? with
    | some fd =>
      let es := E.size fd.type
      if es = 0 then none else
      match x with
      | .ptr b base ext off sz => if fd.offset + es ≤ sz then (match off with
        | .ofNat 0 => K (.ptr b (base + fd.offset) es 0 es)
        | off => K (.ptr b (base + fd.offset) (ext - fd.offset) off es)) else none
      | .rptr b r off sz => if fd.offset + es ≤ sz then K (.rptr b r (addz off fd.offset) es) else none
      | _ => none
    | none => none
  | _ => none

def eLoad (E : Env) (s : St) (t : TypeId) (x : V) (K : V → List Nat → Option R) : Option R :=
  match x with
  | .ptr b base ext off sz => if 0 < E.size t ∧ E.size t ≤ sz then match s.mv b with
      | some (_, c) => c.sub base ext off (E.agg t) (E.size t) fun v => K v [b]
      | none => none
    else none
  | .rptr b r off sz => if 0 < E.size t ∧ E.size t ≤ sz then match s.mv b with
      | some (_, .rows k n l) => match E.agg t with
        | true => if E.size t = n then lt (atl l r.toNat) fun x => K (.ints k n x) [b] else lt (cut (atl l r.toNat) off.toNat (E.size t)) fun x => K (.ints k (E.size t) x) [b]
        | false => lt (at0 (atl l r.toNat) off.toNat) fun x => K (.int k x) [b]
      | _ => none
    else none
  | _ => none

def eStore (E : Env) (s : St) (t : TypeId) (x v : V) (K : St → List Nat → Option R) : Option R :=
  if v.size = E.size t ∧ v.flat = true then match x with
  | .ptr b base ext off sz => if 0 < E.size t ∧ E.size t ≤ sz then match s.mv b with
      | some (true, c) => c.upd base ext off v fun c' => K (putM s b (some (true, c'))) [b]
      | _ => none
    else none
  | .rptr b r off sz => if 0 < E.size t ∧ E.size t ≤ sz then match s.mv b with
      | some (true, .rows k n l) => match v with
        | .ints k' m x => if k = k' then (if m = n then lt (l.set r.toNat x) fun l' => K (putM s b (some (true, .rows k n l'))) [b]
            else lt (l.set r.toNat (paste (atl l r.toNat) off.toNat x)) fun l' => K (putM s b (some (true, .rows k n l'))) [b]) else none
        | .int k' z => if k = k' then lt (l.set r.toNat ((atl l r.toNat).set off.toNat z)) fun l' => K (putM s b (some (true, .rows k n l'))) [b] else none
        | _ => none
      | _ => none
    else none
  | _ => none
  else none

def newB (s : St) (c : V) : St := { s with m := s.m ++ [some (true, c)] }

/-! ### Making -/

def V.isAgg : V → Bool
  | .ints _ _ _ | .bools _ _ | .agg _ => true
  | _ => false

/-- where a part lies, and how big it is -/
def ePlace (E : Env) (t : TypeId) (i : Nat) : Option (Nat × Nat) :=
  match E.und t with
  | .struct fs => match fs[i]? with
    | some fd => some (fd.offset, E.size fd.type)
    | none => none
  | .array _ elem => some (i * E.size elem, E.size elem)
  | _ => none
def eParted (E : Env) (t : TypeId) : Bool :=
  match E.und t with
  | .struct _ => true
  | .array _ elem => decide (0 < E.size elem)
  | _ => false

def eFill (E : Env) (t : TypeId) : List (Nat × V) → V → (V → Option R) → Option R
  | [], z, K => if z.isAgg = true then K z else none
  | (i, x) :: r, z, K => match ePlace E t i with
    | some (off, sz) => if x.size = sz ∧ off + x.size ≤ z.size ∧ 0 < x.size ∧ x.flat = true then z.upd off x.size 0 x fun z' => eFill E t r z' K else none
    | none => none
def eBuild (E : Env) (t : TypeId) (ps : List (Nat × V)) (z : V) (K : V → Option R) : Option R :=
  if eParted E t = true then eFill E t ps z K else none

/-- one element ahead of a row -/
def consRow (x c : V) : Option V :=
  match x, c with
  | .int k x, .row k' l => if k = k' then some (.row k (x :: l)) else none
  | .bool x, .brow l => some (.brow (x :: l))
  | .str x, .srow l => some (.srow (x :: l))
  | .ints k m x, .rows k' m' l => if k = k' ∧ m = m' then some (.rows k m (x :: l)) else none
  | _, _ => none

/-- n zeros of an element type. -/
def zeroRow (z : V) (n : Nat) : Option V :=
  match z with
  | .int k x => some (.row k (List.replicate n x))
  | .bool x => some (.brow (List.replicate n x))
  | .str x => some (.srow (List.replicate n x))
  | .ints k m x => some (.rows k m (List.replicate n x))
  | _ => none

/-- the row of these parts, in order from j on -/
def seqRow (z : V) : Nat → List (Nat × V) → Option V
  | _, [] => zeroRow z 0
  | j, (i, x) :: r => if i = j then (match seqRow z (j + 1) r with | some c => consRow x c | none => none) else none

/-- The content of a slice literal. -/
def eBuildSlice (E : Env) (elem : TypeId) (len : Nat) (ps : List (Nat × V)) : Option V :=
  match E.zero elem with
  | some z => if ps.length = len ∧ len < 1000 ∧ 0 < E.size elem ∧ E.size elem ≤ 1000 ∧ z.size = E.size elem then seqRow z 0 ps else none
  | none => none

/-- a part of a row: from off on, len of them -/
def part0 {α : Type} (l : List α) (off len : Int) : List α := match off with | .ofNat 0 => l.take len.toNat | _ => cut l off.toNat len.toNat

/-- The contents that a slice value stands for, as a row of its own. -/
def rowOf (s : St) (z : V) (x : V) : Option V :=
  match x with
  | .nilsl => zeroRow z 0
  | .own b => match s.mv b with
    | some (_, c) => match c with
      | .ints k _ l => some (.row k l)
      | .bools _ l => some (.brow l)
      | .row k l => some (.row k l)
      | .brow l => some (.brow l)
      | .srow l => some (.srow l)
      | .rows k n l => some (.rows k n l)
      | _ => none
    | none => none
  | .sl b off len => match s.mv b with
    | some (_, c) => match c with
      | .row k l => some (.row k (part0 l off len))
      | .ints k _ l => some (.row k (part0 l off len))
      | .brow l => some (.brow (part0 l off len))
      | .bools _ l => some (.brow (part0 l off len))
      | .srow l => some (.srow (part0 l off len))
      | .rows k n l => some (.rows k n (part0 l off len))
      | _ => none
    | none => none
  | .str l => match z with
    | .int .u8 _ => some (.row .u8 l)
    | _ => none
  | _ => none

/-- Does a row hold elements of this kind? -/
def fits : V → V → Bool
  | .int k _, .row k' _ => k == k'
  | .bool _, .brow _ => true
  | .str _, .srow _ => true
  | .ints k m _, .rows k' m' _ => k == k' && m == m'
  | _, _ => false

def catRow (a b : V) (K : V → Option R) : Option R :=
  match a, b with
  | .row k x, .row k' y => if k = k' then lt (x ++ y) fun z => K (.row k z) else none
  | .brow x, .brow y => lt (x ++ y) fun z => K (.brow z)
  | .srow x, .srow y => lt (x ++ y) fun z => K (.srow z)
  | .rows k n x, .rows k' n' y => if k = k' ∧ n = n' then lt (x ++ y) fun z => K (.rows k n z) else none
  | _, _ => hi none

def rowLen : V → Nat
  | .row _ l => l.length | .brow l => l.length | .srow l => l.length | .rows _ _ l => l.length | _ => 0

/-- May this slice be appended to (its block is given up)? -/
def giveUp (s : St) : V → Option St
  | .nilsl => some s
  | .own b => match s.mv b with | some (true, _) => some (putM s b none) | _ => none
  | .sl b (.ofNat 0) _ => match s.mv b with | some (true, .row _ _) | some (true, .brow _) | some (true, .srow _) | some (true, .rows _ _ _) => some (putM s b none) | _ => none
  | _ => none

def eAppend (E : Env) (s : St) (elem : TypeId) (x y : V) (K : V → St → List Nat → List Nat → Option R) : Option R :=
  match E.zero elem with
  | some z => if z.size = E.size elem ∧ 0 < E.size elem ∧ E.bytes elem ≤ 1000 then
    match rowOf s z x, rowOf s z y, giveUp s x with
    | some a, some b, some s' => if fits z a = true ∧ fits z b = true then chk (decide (rowLen a + rowLen b ≤ maxLength)) (catRow a b fun c => K (.own s.nx) (newB s' c) (x.names ++ y.names) x.names) else none
    | _, _, _ => none
    else none
  | none => none

def eLen (E : Env) (s : St) (t : TypeId) (x : V) (K : V → List Nat → Option R) : Option R :=
  match E.und t with
  | .array n _ => if n ≤ maxInt then K (.int .i64 n) [] else none
  | .string => match x with
    | .str l => chk (decide (l.length ≤ maxInt)) (lt (l.length : Int) fun z => K (.int .i64 z) [])
    | _ => none
  | .slice _ => match x with
    | .nilsl => K (.int .i64 0) []
    | .sl b _ n => match s.mv b with
      | some _ => chk (decide (n ≤ maxInt)) (K (.int .i64 n) [b])
      | none => none
    | .own b => match s.mv b with
      | some (_, c) => match c.elems with
        | some (n, _) => chk (decide (n ≤ maxInt)) (lt n fun z => K (.int .i64 z) [b])
        | none => none
      | none => none
    | _ => none
  | _ => none

def slLo (lo : Option V) : Option Int := match lo with | none => some 0 | some (.int _ i) => some i | _ => none
def slHi (hi : Option V) (n : Int) : Option Int := match hi with | none => some n | some (.int _ i) => some i | _ => none
def slStr (c : List Int) (lo hi : Option V) (l h : Int) : List Int :=
  match lo with | none => c.take h.toNat | some _ => match hi with | none => c.drop l.toNat | some _ => (c.take h.toNat).drop l.toNat
def slTail (b : Nat) (off : Int) (lo : Option V) (l h : Int) (K : V → List Nat → Option R) : Option R :=
  match lo with | none => K (.sl b off h) [b] | some _ => lt (h - l) fun z => K (.sl b (addz off l) z) [b]

def eSlice (E : Env) (s : St) (t : TypeId) (x : V) (lo hi mx : Option V) (K : V → List Nat → Option R) : Option R :=
  match slLo lo with
  | none => none
  | some l => match x with
    | .str c => match E.und t with
      | .string => match slHi hi c.length, mx with
        | some h, none => chk (decide (0 ≤ l)) (chk (decide (l ≤ h)) (chk (decide (h ≤ c.length)) (lt (slStr c lo hi l h) fun z => K (.str z) [])))
        | _, _ => none
      | _ => none
    | .own b => match E.und t with
      | .slice elem => match s.mv b with
        | some (_, c) => match c.elems with
          | some (n, k) => if E.size elem = k.getD 1 ∧ 0 < E.size elem then
            match slHi hi n, mx with
            | some h, none => chk (decide (0 ≤ l)) (chk (decide (l ≤ h)) (chk (decide (h ≤ n)) (slTail b 0 lo l h K)))
            | some h, some (.int _ m) => match hi with
              | none => none
              | some _ => chk (decide (0 ≤ l)) (chk (decide (l ≤ h)) (chk (decide (h ≤ m)) (chk (decide (m ≤ n)) (slTail b 0 lo l h K))))
            | _, _ => none
            else none
          | none => none
        | none => none
      | _ => none
    | .sl b off n => match E.und t with
      | .slice elem => match s.mv b with
        | some (_, c) => match c.elems with
          | some (_, k) => if E.size elem = k.getD 1 ∧ 0 < E.size elem then
            match slHi hi n, mx with
            | some h, none => chk (decide (0 ≤ l)) (chk (decide (l ≤ h)) (chk (decide (h ≤ n)) (slTail b off lo l h K)))
            | _, _ => none
            else none
          | none => none
        | none => none
      | _ => none
    | .ptr b base _ off sz => match E.und t with
      | .array n elem => match slHi hi n, mx, s.mv b with
        | some h, none, some (_, c) => match c.elems with
          | some (_, none) => if E.size elem = 1 ∧ n ≤ sz then chk (decide (0 ≤ l)) (chk (decide (l ≤ h)) (chk (decide (h ≤ n)) (slTail b (addz base off) lo l h K))) else none
          | _ => none
        | _, _, _ => none
      | _ => none
    | _ => none

/-- a slice seen as an array -/
def eArr (E : Env) (s : St) (t : TypeId) (x : V) (K : V → List Nat → Option R) : Option R :=
  match E.und t with
  | .array n elem => if E.size elem = 1 ∧ 0 < n then match x with
    | .own b => match s.mv b with
      | some (_, .row _ l) => chk (decide ((n : Int) ≤ l.length)) (K (.ptr b 0 l.length 0 n) [b])
      | _ => none
    | .sl b off len => match s.mv b with
      | some (_, c) => match c with
        | .row _ l => chk (decide ((n : Int) ≤ len)) (K (.ptr b 0 l.length off n) [b])
        | .ints _ m _ => chk (decide ((n : Int) ≤ len)) (K (.ptr b 0 m off n) [b])
        | _ => none
      | _ => none
    | _ => none
    else none
  | _ => none

def eIndex (E : Env) (t : TypeId) (x i : V) (K : V → Option R) : Option R :=
  match i with
  | .int _ i => match E.und t, x with
    | .array len elem, x => if 0 < E.size elem ∧ len * E.size elem ≤ x.size ∧ x.isAgg = true then
      chk (decide (0 ≤ i)) (chk (decide (i < len)) (x.sub 0 x.size (scale i (E.size elem)) (E.agg elem) (E.size elem) K)) else none
    | .string, .str l => chk (decide (0 ≤ i)) (chk (decide (i < l.length)) (lt (at0 l i.toNat) fun z => K (.int .u8 z)))
    | _, _ => none
  | _ => none

def eField (E : Env) (t : TypeId) (x : V) (f : Nat) (K : V → Option R) : Option R :=
  match E.und t with
  | .struct fs => match fs[f]? with
    | some fd => if fd.offset + E.size fd.type ≤ x.size ∧ 0 < E.size fd.type ∧ x.isAgg = true then x.sub fd.offset (E.size fd.type) 0 (E.agg fd.type) (E.size fd.type) K else none
    | none => none
  | _ => none

def eConvert (E : Env) (s : St) (src dst : TypeId) (x : V) (K : V → St → List Nat → Option R) : Option R :=
  match E.und src with
  | .invalid => none
  | .string => match E.und dst, x with
    | .string, .str l => K (.str l) s []
    | .slice e, .str l => match E.und e with
      | .int .u8 => K (.own s.nx) (newB s (.row .u8 l)) []
      | _ => none
    | _, _ => none
  | .slice e => match E.und dst with
    | .string => match E.und e, x with
      | .int .u8, .nilsl => K (.str []) s []
      | .int .u8, .own b => match rowOf s (.int .u8 0) (.own b) with
        | some (.row .u8 l) => K (.str l) s [b]
        | _ => none
      | .int .u8, .sl b off n => match rowOf s (.int .u8 0) (.sl b off n) with
        | some (.row .u8 l) => K (.str l) s [b]
        | _ => none
      | _, _ => none
    | _ => none
  | _ => match E.und dst, x with
    | .int k, .int _ n => lt (k.wrap n) fun z => K (.int k z) s []
    | _, _ => none

def spl {α : Type} (l : List α) (off n : Nat) (x : List α) : List α := l.take off ++ x.take n ++ l.drop (off + n)

def splRow (c : V) (off n : Nat) (x : V) (K : V → Option R) : Option R :=
  match c, x with
  | .ints k m l, .row k' y => if k = k' then lt (spl l off n y) fun z => K (.ints k m z) else none
  | .row k l, .row k' y => if k = k' then lt (spl l off n y) fun z => K (.row k z) else none
  | .bools m l, .brow y => lt (spl l off n y) fun z => K (.bools m z)
  | .brow l, .brow y => lt (spl l off n y) fun z => K (.brow z)
  | .rows k m l, .rows k' m' y => if k = k' ∧ m = m' then lt (spl l off n y) fun z => K (.rows k m z) else none
  | _, _ => hi none

def eCopy (E : Env) (s : St) (elem : TypeId) (x y : V) (K : V → St → List Nat → List Nat → Option R) : Option R :=
  match E.zero elem with
  | some z => if z.size = E.size elem ∧ 0 < E.size elem then match rowOf s z y with
    | some r => if fits z r = true then match x with
      | .own b => match s.mv b with
        | some (true, c) => match c.elems with
          | some (len, k) => if E.size elem = k.getD 1 then lt (min (rowLen r) len.toNat) fun n => chk (decide (n ≤ maxLength)) (splRow c 0 n r fun c' => K (.int .i64 n) (putM s b (some (true, c'))) y.names [b]) else none
          | none => none
        | _ => none
      | .sl b off len => match s.mv b with
        | some (true, c) => match c.elems with
          | some (_, k) => if E.size elem = k.getD 1 then lt (min (rowLen r) len.toNat) fun n => chk (decide (n ≤ maxLength)) (splRow c off.toNat n r fun c' => K (.int .i64 n) (putM s b (some (true, c'))) y.names [b]) else none
          | none => none
        | _ => none
      | _ => none
      else none
    | none => none
    else none
  | none => none

def maxs : Int → List V → IntKind → Option Int
  | x, [], _ => some x
  | x, .int k' y :: r, k => if k = k' then maxs (if y > x then y else x) r k else none
  | _, _, _ => none
def mins : Int → List V → IntKind → Option Int
  | x, [], _ => some x
  | x, .int k' y :: r, k => if k = k' then mins (if y < x then y else x) r k else none
  | _, _, _ => none

end
end Go.Ev

/-
  The evaluator itself: operations, regions, code, calls. (Definitions alone.)
-/
namespace Go.Ev

def exEq : Exit → Exit → Bool
  | .normal, .normal => true
  | .exit a, .exit b => a == b
  | .ret, .ret => true
  | _, _ => false

def Outs.T : List (Exit × List It) → Type
  | [] => Empty
  | [(_, l)] => Its.T l
  | (_, l) :: o :: r => Its.T l ⊕ Outs.T (o :: r)

/-- Names that the items' slices had, at the beginning. -/
def Pcs.gives : List Pc → List V → List Nat
  | .v _ :: r, _ :: vs => Pcs.gives r vs
  | .own _ _ :: r, v :: vs => v.names ++ Pcs.gives r vs
  | .k _ :: r, _ :: vs => Pcs.gives r vs
  | _, _ => []
def It.gives (s : St) : It → List Nat
  | .own i _ _ => (s.tv i).names
  | .blkS b l => match s.mv b with | some (_, .agg vs) => Pcs.gives l vs | _ => []
  | .blkO b _ _ => match s.mv b with | some (_, v) => v.names | _ => []
  | _ => []
def Its.gives (s : St) (l : List It) : List Nat := l.flatMap (It.gives s)
def dropMAt (l : List Nat) : Nat → List (Option (Bool × V)) → List (Option (Bool × V))
  | _, [] => []
  | i, v :: r => (if l.contains i then none else v) :: dropMAt l (i + 1) r
def dropM (l : List Nat) (s : St) : St := { s with m := dropMAt l 0 s.m }
def lockButAt (l : List Nat) : Nat → List (Option (Bool × V)) → List (Option (Bool × V))
  | _, [] => []
  | i, v :: r => (if l.contains i then v else lockX v) :: lockButAt l (i + 1) r
def lockBut (l : List Nat) (s : St) : St := { s with m := lockButAt l 0 s.m }
def addM (n : Nat) (s : St) : St := { s with m := s.m ++ List.replicate n none }

def nodup : List Nat → Bool
  | [] => true
  | x :: r => !r.contains x && nodup r

def Pc.news : Pc → List Nat | .v _ => [] | .own b _ => [b] | .k _ => []
/-- the names that items bring -/
def It.news : It → List Nat
  | .own _ b _ => [b]
  | .blkS _ l => l.flatMap Pc.news
  | .blkO _ n _ => [n]
  | _ => []
/-- the blocks that items change -/
def It.blks : It → List Nat
  | .blk b _ => [b]
  | .blkS b _ => [b]
  | .blkO b _ _ => [b]
  | _ => []

def Pc.kept : Pc → List Nat | .k u => u.names | _ => []
def It.kept : It → List Nat
  | .blkS _ l => l.flatMap Pc.kept
  | _ => []
def disj (a b : List Nat) : Bool := a.all fun x => !b.contains x

/-- Items that may stand together: other names, fresh ones, other blocks, other slots. -/
def Its.ok (nx fresh : Nat) (l : List It) : Bool :=
  nodup (l.flatMap It.news) && (l.flatMap It.news).all (fun b => nx ≤ b && b < nx + fresh) && nodup (l.flatMap It.blks) && (l.flatMap It.blks).all (· < nx) && (l.flatMap It.kept).all (· < nx)

/-- The items' content, where each slice is given up once. -/
def Its.take (s : St) (l : List It) : Option (Its.T l) :=
  match nodup (Its.gives s l) && disj (Its.gives s l) (l.flatMap It.blks) with
  | true => Its.dec s l
  | false => none

def Outs.dec (e : Exit) (s : St) : (l : List (Exit × List It)) → Option (Outs.T l)
  | [] => none
  | [(e', l)] => if exEq e e' then Its.take s l else none
  | (e', l) :: o :: r => if exEq e e' then (match Its.take s l with | some x => some (.inl x) | none => none) else (match Outs.dec e s (o :: r) with | some x => some (.inr x) | none => none)

/-- The slots that code assigns. -/
def asg : Code → List Nat
  | .region _ ops _ => ops.toList.filterMap (·.dst)
  | .seq a b => asg a ++ asg b
  | .cond _ a b => asg a ++ asg b
  | .block _ c | .loop c | .scope c => asg c
  | _ => []

/-- The state in which what isn't carried stands as it did. -/
def baseSt (s : St) (c : Code) (fresh : Nat) (l : List It) : St := addM fresh (dropL (asg c) (dropM (Its.gives s l) s))

section
variable {R : Type}

/-! ### Which operations hang on which -/

def preds (o : Oper) : List Nat := o.after.toList.filterMap fun e => if Region.binds .any e then some e.on else none
/-- of each operation: the ones that it waits for, as bits -/
def masks : List Oper → List Nat → List Nat
  | [], acc => acc
  | o :: r, acc => masks r (acc ++ [(preds o).foldl (fun m i => m ||| ((1 <<< i) ||| acc.getD i 0)) 0])


/-- Operations i < j that nothing orders touch nothing of one another's. -/
def indep (ops : Array Oper) (tr : List (List Nat × List Nat)) : Bool :=
  let ms := masks ops.toList []
  (List.range ops.size).all fun j => match ops[j]?, tr[j]? with
    | some oj, some (rj, wj) =>
      let m := ms.getD j 0
      (preds oj).all (· < j) && (List.range j).all fun i => m.testBit i || (match ops[i]?, tr[i]? with
        | some oi, some (ri, wi) => disj wi (rj ++ wj) && disj wj ri && oi.apart ops oj
        | _, _ => false)
    | _, _ => false

/-! ### One operation -/

/-- (cx, function, arguments, state; the result, the state behind, the names read, the names written) -/
abbrev CallF (R : Type) := List Nat → FuncId → List V → St → (V → St → List Nat → List Nat → Option R) → Option R

def eMethod (E : Env) (s : St) (recv : V) (name : String) (K : FuncId → V → List Nat → Option R) : Option R :=
  match recv with
  | .iface t v => match E.P.info? t with
    | some i => match i.methods.find? (·.name == name) with
      | some m => if m.path.isEmpty then match m.func with
        | some (f, true) => match E.und t with
          | .pointer _ => K f v []
          | _ => none
        | some (f, false) => match E.und t with
          | .pointer e => eLoad E s e v fun x rd => K f x rd
          | .invalid => none
          | _ => K f v []
        | none => none
        else none
      | none => none
    | none => none
  | _ => none

def sameTmp : Operand → Operand → Bool | .tmp a, .tmp b => a == b | _, _ => false

def evOp (E : Env) (call : CallF R) (cx : List Nat) (s : St) (o : Oper) (K : V → St → List Nat → List Nat → Option R) : Option R :=
  let v (x : Operand) : V := eopd E s x
  let pure (x : V) : Option R := K x s [] []
  match o.op with
  | .move x | .assign x => pure (v x)
  | .pick c a b => ePick (v c) (v a) (v b) pure
  | .alloc t => match E.zero t with
    | some z => if z.size = E.size t then K (.ptr s.nx 0 (E.size t) 0 (E.size t)) (newB s z) [] [] else none
    | none => none
  | .box t x => if (v x).size = E.size t then match v x with
    | .dead => none
    | x => if x.flat then K (.ptr s.nx 0 (E.size t) 0 (E.size t)) (newB s x) [] [] else none
    else none
  | .build t ps => match E.zero t with
    | some z => eBuild E t (ps.toList.map fun p => (p.1, v p.2)) z pure
    | none => none
  | .buildSlice t n ps => match E.und t with
    | .slice e => match eBuildSlice E e n (ps.toList.map fun p => (p.1, v p.2)) with
      | some c => K (.own s.nx) (newB s c) [] []
      | none => none
    | _ => none
  | .load t a => eLoad E s t (v a) fun x rd => K x s rd []
  | .store t a x => eStore E s t (v a) (v x) fun s' wr => K (.tuple []) s' [] wr
  | .nilCheck x => match v x with
    | .ptr b base ext off sz => pure (.ptr b base ext off sz)
    | .rptr b i off sz => pure (.rptr b i off sz)
    | .fn f a c => pure (.fn f a c)
    | _ => none
  | .binOp op t x y _ => eBin E t op (v x) (v y) pure
  | .unOp op _ x => eUn op (v x) pure
  | .convert src dst x => eConvert E s src dst (v x) fun y s' rd => K y s' rd []
  | .sliceToArrayPointer t x => eArr E s t (v x) fun y rd => K y s rd []
  | .makeInterface t x => match E.und t with
    | .interface _ => none
    | .invalid => none
    | _ => match v x with
      | .dead => none
      | x => pure (.iface t x)
  | .makeFunc fn first cap => match fn with
    | .func f => pure (.fn f (first.toList.map v) (cap.toList.map v))
    | _ => none
  | .makeSlice t len cap => match E.und t with
    | .slice e => match v len, E.zero e with
      | .int _ n, some z => if z.size = E.size e ∧ 0 < E.size e ∧ E.bytes e ≤ 1000 then
        match zeroRow z n.toNat with
        | some c => chk (decide (0 ≤ n)) (chk (decide (n ≤ maxLength)) (if sameTmp len cap = true then K (.own s.nx) (newB s c) [] [] else
            match v cap with | .int _ m => chk (decide (n ≤ m)) (chk (decide (m ≤ maxLength)) (K (.own s.nx) (newB s c) [] [])) | _ => none))
        | none => none
        else none
      | _, _ => none
    | _ => none
  | .slice t x lo hi mx => eSlice E s t (v x) (lo.map v) (hi.map v) (mx.map v) fun y rd => K y s rd []
  | .fieldAddr t x f => eFieldAddr E t (v x) f pure
  | .field t x f => eField E t (v x) f pure
  | .indexAddr t x i => eIndexAddr E s t (v x) (v i) fun y rd => K y s rd []
  | .index t x i => eIndex E t (v x) (v i) pure
  | .typeAssert x _ t ok => match E.und t with
    | .interface _ => none
    | .invalid => none
    | _ => match v x, ok with
      | .iface t' y, false => if t' = t then pure y else none
      | _, _ => none
  | .extract t i => match v t with
    | .tuple vs => match vs[i]? with
      | some x => pure x
      | none => none
    | _ => none
  | .call c =>
    let args := c.args.toList.map v
    match c.callee with
    | .value f => match v f with
      | .fn g first cap => call cx g (first ++ args ++ cap) s K
      | _ => none
    | .invoke r name => eMethod E s (v r) name fun g x rd0 => call cx g (x :: args) s fun y s' rd wr => K y s' (rd0 ++ rd) wr
    | .builtin b => match b, args with
      | .len, [x] => match c.argTypes[0]? with
        | some t => eLen E s t x fun y rd => K y s rd []
        | none => none
      | .append, [x, y] => match c.argTypes[0]?, c.argTypes[1]? with
        | some t, some u => match E.und t with
          | .slice e => match E.und u with
            | .slice _ => eAppend E s e x y K
            | .string => eAppend E s e x y K
            | _ => none
          | _ => none
        | _, _ => none
      | .copy, [x, y] => match c.argTypes[0]? with
        | some t => match E.und t with
          | .slice e => eCopy E s e x y K
          | _ => none
        | none => none
      | .max, .int k x :: r => match maxs x r k with
        | some z => lt z fun z => pure (.int k z)
        | none => none
      | .min, .int k x :: r => match mins x r k with
        | some z => lt z fun z => pure (.int k z)
        | none => none
      | _, _ => none
  | _ => none

def putD (s : St) (d : Option Tmp) (v : V) : Option St :=
  match d with
  | none => some s
  | some d => if d < s.t.length then some (putT s d v) else none

/-- The operations of a region, in the order of the text. 'tr': what each read and wrote, the last first. -/
def evOps (E : Env) (call : List Nat → CallF R) (rid : Nat) (cx : List Nat) (ops : Array Oper) :
    List Oper → Nat → St → List (List Nat × List Nat) → (St → List (List Nat × List Nat) → Option R) → Option R
  | [], _, s, tr, K => K s tr
  | o :: r, j, s, tr, K =>
    let run (s : St) : Option R := evOp E (call ((rid * 1000 + j) :: cx)) cx s o fun x s' rd wr => match putD s' o.dst x with
      | some s'' => evOps E call rid cx ops r (j + 1) s'' ((rd, wr ++ List.range' s.nx (s'.nx - s.nx)) :: tr) K
      | none => none
    let skip (s : St) : Option R := match putD s o.dst (.tuple []) with
      | some s'' => evOps E call rid cx ops r (j + 1) s'' (([], []) :: tr) K
      | none => none
    match o.guard with
    | none => run s
    | some (g, want) => match (match ops[g]? with | some o => o.dst | none => none) with
      | some d => match s.tv d with
        | .bool b => match want with
          | true => br b (run (putT s d (.bool true))) (skip (putT s d (.bool false)))
          | false => br b (skip (putT s d (.bool true))) (run (putT s d (.bool false)))
        | .tuple [] => skip s
        | _ => none
      | none => none

/-! ### Calls and code -/

def retK {R : Type} (E : Env) (s : St) : List ResultVar → (List V → Option R) → Option R
  | [], K => K []
  | .tmp t :: r, K => retK E s r fun l => K (s.tv t :: l)
  | .cell a t :: r, K => eLoad E s t (s.tv a) fun x _ => retK E s r fun l => K (x :: l)

def ret1 (l : List V) : V := match l with | [v] => v | l => .tuple l

def frame0 (n : Nat) (args : List V) : List V := args ++ List.replicate (n - args.length) (.tuple [])

/-- the blocks with these names, locked -/
def onlyAt (l : List Nat) (g : Nat) : Nat → List (Option (Bool × V)) → List (Option (Bool × V))
  | _, [] => []
  | i, v :: r => (if l.contains i ∨ i < g then lockX v else none) :: onlyAt l g (i + 1) r

/-- all names in these contents are below n -/
def below (n : Nat) : List (Option (Bool × V)) → Bool
  | [] => true
  | none :: r => below n r
  | some (_, v) :: r => v.names.all (· < n) && below n r
/-- no block here is one that may not be written -/
def allNew : List (Option (Bool × V)) → Bool
  | [] => true
  | some (false, _) :: _ => false
  | _ :: r => allNew r

mutual
/-- the same value, its head seen -/
def forceV {R : Type} : V → (V → Option R) → Option R
  | .dead, K => hi (K .dead)
  | .bool b, K => K (.bool b)
  | .int k n, K => K (.int k n)
  | .str l, K => K (.str l)
  | .nilptr, K => K .nilptr
  | .ptr a b c d e, K => K (.ptr a b c d e)
  | .rptr a b c d, K => K (.rptr a b c d)
  | .nilsl, K => K .nilsl
  | .own a, K => K (.own a)
  | .sl a b c, K => K (.sl a b c)
  | .nilfn, K => K .nilfn
  | .fn a b c, K => forceVs b fun b => forceVs c fun c => K (.fn a b c)
  | .niliface, K => K .niliface
  | .iface a b, K => forceV b fun b => K (.iface a b)
  | .ints a b c, K => K (.ints a b c)
  | .bools a b, K => K (.bools a b)
  | .agg a, K => forceVs a fun a => K (.agg a)
  | .tuple a, K => forceVs a fun a => K (.tuple a)
  | .row a b, K => K (.row a b)
  | .rows a b c, K => K (.rows a b c)
  | .brow a, K => K (.brow a)
  | .srow a, K => K (.srow a)
def forceVs {R : Type} : List V → (List V → Option R) → Option R
  | [], K => hi (K [])
  | v :: r, K => forceV v fun v => forceVs r fun r => K (v :: r)
end
def forceM {R : Type} : List (Option (Bool × V)) → (List (Option (Bool × V)) → Option R) → Option R
  | [], K => hi (K [])
  | x :: r, K => match x with
    | none => forceM r fun r => K (none :: r)
    | some (b, v) => match b with
      | true => forceV v fun v => forceM r fun r => K (some (true, v) :: r)
      | false => forceV v fun v => forceM r fun r => K (some (false, v) :: r)
def force {R : Type} (s : St) (K : St → Option R) : Option R := forceVs s.t fun t => forceM s.m fun m => K ⟨t, m⟩

def Outs.use {R : Type} (s : St) (K : Exit → St → Option R) : (l : List (Exit × List It)) → Outs.T l → Option R
  | [], _ => none
  | [(e, l)], x => force (Its.put s l x) (K e)
  | (e, l) :: o :: r, x => sel x (fun y => force (Its.put s l y) (K e)) (fun y => Outs.use s K (o :: r) y)

def updM : List (Nat × V) → List (Option (Bool × V)) → List (Option (Bool × V))
  | [], m => m
  | (b, c) :: r, m => updM r (m.set b (some (true, c)))

/-- A call of function f: by its contract, or its body. -/
def evCall (E : Env) (draw : Bool) (body : List Nat → Code → St → (Exit → St → Option R) → Option R)
    (cx : List Nat) (f : FuncId) (args : List V) (s : St) (K : V → St → List Nat → List Nat → Option R) : Option R :=
  match E.sig f with
  | some g => g R args s.m fun v cs us => K v { s with m := updM us s.m ++ cs.map fun c => some (true, c) } (V.namesL args ++ List.range E.gn) (us.map (·.1))
  | none => match E.P.funcs[f]? with
    | some fn => match fn.body with
      | some c => if args.length ≤ fn.ntmps then match draw with
        | false => force ⟨frame0 fn.ntmps args, s.m⟩ fun s0 => body cx c s0 fun e s' =>
          let out : Option R := retK E s' fn.results.toList fun l => K (ret1 l) { s with m := s'.m } (List.range s.nx) (List.range s.nx)
          match e with
          | .normal => out
          | .ret => out
          | _ => none
        | true => force ⟨frame0 fn.ntmps args, onlyAt (reach s.m 100 (V.namesL args) []) E.gn 0 s.m⟩ fun s0 =>
          if (E.gn ≤ s.nx ∧ (V.namesL args).all (· < s.nx) = true) ∧ below s.nx s0.m = true then body cx c s0 fun e s' =>
            let out : Option R := if allNew (s'.m.drop s.nx) = true then retK E s' fn.results.toList fun l =>
              K (ret1 l) { s with m := s.m ++ s'.m.drop s.nx } (reach s.m 100 (V.namesL args) [] ++ List.range E.gn) [] else none
            match e with
            | .normal => out
            | .ret => out
            | _ => none
          else none
        else none
      | none => none
    | none => none

def ev (E : Env) : (fuel : Nat) → (R : Type) → (bid : Nat) → (cx : List Nat) → Code → St → (Exit → St → Option R) → Option R
  | 0, _, _, _, _, _, _ => none
  | n + 1, R, bid, cx, c, s, K => match c with
    | .skip => K .normal s
    | .ret => K .ret s
    | .exit i => K (.exit i) s
    | .seq a b => ev E n R 0 cx a s fun e s' => match e with
      | .normal => ev E n R 0 cx b s' K
      | e => K e s'
    | .cond x a b => match eopd E s x with
      | .bool t => match E.getAnn ((match x with | .tmp t => 20000 + t | _ => 30000) :: cx) with
        | none => br t (ev E n R 0 cx a s K) (ev E n R 0 cx b s K)
        | some A =>
          let items := A.items.map (RIt.abs s)
          let outs := A.outs.map fun o => (o.1, o.2.map (RIt.abs s))
          let base := baseSt s c A.fresh items
          if Its.ok s.nx A.fresh items ∧ outs.all (fun o => Its.ok s.nx A.fresh o.2 && (o.2.flatMap It.blks).all (items.flatMap It.blks).contains) then
          let s1 := addM A.fresh (lockBut (items.flatMap It.blks ++ Its.gives s items) s)
          let K1 := fun e s' => Outs.dec e s' outs
          obind (br t (ev E n (Outs.T outs) 0 cx a s1 K1) (ev E n (Outs.T outs) 0 cx b s1 K1)) fun y =>
          Outs.use (dropM (items.flatMap It.blks) base) K outs y
          else none
      | _ => none
    | .block i c => ev E n R i cx c s fun e s' => match e with
      | .exit j => if j = i then K .normal s' else K (.exit j) s'
      | e => K e s'
    | .region id ops draw =>
      match E.getAnn ((10000 + id) :: cx) with
      | some A =>
        let items := A.items.map (RIt.abs s)
        if items.all (fun | .slot _ _ => true | _ => false) then
        obind (evOps (R := Its.T items) E (fun cx' => evCall E draw (fun _ => ev E n (Its.T items) 0 cx')) id cx ops ops.toList 0 (lock s) [] fun s' tr => match draw with
          | false => Its.dec s' items
          | true => chk (indep ops tr.reverse) (Its.dec s' items)) fun x => force (Its.put (dropL (asg c) s) items x) (K .normal)
        else none
      | none => evOps E (fun cx' => evCall E draw (fun _ => ev E n R 0 cx')) id cx ops ops.toList 0 s [] fun s' tr => match draw with
          | false => force s' (K .normal)
          | true => chk (indep ops tr.reverse) (force s' (K .normal))
    | .loop body => match E.getAnn (bid :: cx) with
      | some A =>
        let items := A.items.map (RIt.abs s)
        let outs := A.outs.map fun o => (o.1, o.2.map (RIt.abs s))
        let base := baseSt s c A.fresh items
        if Its.ok s.nx A.fresh items ∧ outs.all (fun o => Its.ok s.nx A.fresh o.2 && (o.2.flatMap It.blks).all (items.flatMap It.blks).contains) then
        match Its.take s items with
        | some x0 =>
          obind (iter E.k (fun x => ev E n (Its.T items ⊕ Outs.T outs) 0 cx body (Its.put (dropM (items.flatMap It.blks) (lock base)) items x) fun e s' => match e with
            | .normal => match Its.take s' items with | some x' => some (.inl x') | none => none
            | e => match Outs.dec e s' outs with | some y => some (.inr y) | none => none) x0) fun y =>
          Outs.use (dropM (items.flatMap It.blks) base) K outs y
        | none => none
        else none
      | none => none
    | _ => none

end

/-! ### Functions -/

/-- Arguments: plain data; a slice that is read; a pointer to a block that is read; one to a block that is changed. -/
inductive Ac where
  | v (c : Cd)
  | sl (c : Cd)
  | ref (c : Cd)
  | ptr (c : Cd)

def Ac.cd : Ac → Cd | .v c | .sl c | .ref c | .ptr c => c
def Acs.T : List Ac → Type
  | [] => Unit
  | a :: r => a.cd.T × Acs.T r

mutual
def Cd.size : Cd → Nat
  | .ints _ n => n
  | .bools n => n
  | .agg l => Cd.sizeL l
  | _ => 1
def Cd.sizeL : List Cd → Nat
  | [] => 0
  | c :: r => c.size + Cd.sizeL r
end

/-- The arguments (names from nx on for the blocks). -/
def Acs.vals (nx : Nat) : (l : List Ac) → Acs.T l → List V
  | [], _ => []
  | .v c :: r, x => c.enc x.1 :: Acs.vals nx r x.2
  | .sl _ :: r, x => .own nx :: Acs.vals (nx + 1) r x.2
  | .ref c :: r, x => .ptr nx 0 c.size 0 c.size :: Acs.vals (nx + 1) r x.2
  | .ptr c :: r, x => .ptr nx 0 c.size 0 c.size :: Acs.vals (nx + 1) r x.2
def Acs.blks : (l : List Ac) → Acs.T l → List (Option (Bool × V))
  | [], _ => []
  | .v _ :: r, x => Acs.blks r x.2
  | .sl c :: r, x => some (false, c.enc x.1) :: Acs.blks r x.2
  | .ref c :: r, x => some (false, c.enc x.1) :: Acs.blks r x.2
  | .ptr c :: r, x => some (true, c.enc x.1) :: Acs.blks r x.2

def Cd.zero : Cd → V
  | .row k => .int k 0 | .brow => .bool false | .srow => .str [] | .rows k n => .ints k n [] | _ => .dead
/-- a slice's content, as an argument -/
def rowArg (m : List (Option (Bool × V))) (z v : V) : Option V := match v with | .str _ => none | v => rowOf ⟨[], m⟩ z v
def Acs.dec (m : List (Option (Bool × V))) : (l : List Ac) → List V → Option (Acs.T l)
  | [], [] => some ()
  | .v c :: r, v :: vs => match c.dec v with
    | some x => match Acs.dec m r vs with | some y => some (x, y) | none => none
    | none => none
  | .sl c :: r, v :: vs => match rowArg m c.zero v with
    | some u => match c.dec u with
      | some x => match Acs.dec m r vs with | some y => some (x, y) | none => none
      | none => none
    | none => none
  | .ref c :: r, v :: vs => match v with
    | .ptr b 0 ext (.ofNat 0) sz => if sz = c.size ∧ ext = c.size then match mget m b with
      | some (_, u) => match c.dec u with
        | some x => match Acs.dec m r vs with | some y => some (x, y) | none => none
        | none => none
      | none => none
      else none
    | _ => none
  | .ptr c :: r, v :: vs => match v with
    | .ptr b 0 ext (.ofNat 0) sz => if sz = c.size ∧ ext = c.size then match mget m b with
      | some (true, u) => match c.dec u with
        | some x => match Acs.dec m r vs with | some y => some (x, y) | none => none
        | none => none
      | _ => none
      else none
    | _ => none
  | _, _ => none
/-- the names of the blocks that are changed -/
def Acs.muts : List Ac → List V → List Nat
  | .ptr _ :: r, v :: vs => v.names ++ Acs.muts r vs
  | _ :: r, _ :: vs => Acs.muts r vs
  | _, _ => []
/-- the names of the blocks that are read -/
def Acs.refs : List Ac → List V → List Nat
  | .sl _ :: r, v :: vs => v.names ++ Acs.refs r vs
  | .ref _ :: r, v :: vs => v.names ++ Acs.refs r vs
  | _ :: r, _ :: vs => Acs.refs r vs
  | _, _ => []
/-- A slice begins where its block does, or there is something in it. -/
def Acs.chk {R : Type} : List Ac → List V → Option R → Option R
  | .sl _ :: r, v :: vs, K => match v with
    | .sl _ (.ofNat 0) _ => Acs.chk r vs K
    | .sl _ _ len => Go.Ev.chk (decide (0 < len)) (Acs.chk r vs K)
    | _ => Acs.chk r vs K
  | _ :: r, _ :: vs, K => Acs.chk r vs K
  | _, _, K => K
def Acs.mutC : List Ac → List Cd
  | .ptr c :: r => c :: Acs.mutC r
  | _ :: r => Acs.mutC r
  | [] => []
/-- the same, at a function's beginning -/
def Acs.mutN (nx : Nat) : List Ac → List Nat
  | .ptr _ :: r => nx :: Acs.mutN (nx + 1) r
  | .v _ :: r => Acs.mutN nx r
  | _ :: r => Acs.mutN (nx + 1) r
  | [] => []

/-- the same constant -/
def V.eqK : V → V → Bool
  | .ints k n l, .ints k' n' l' => k == k' && (n == n' && l == l')
  | _, _ => false
/-- the package's variables, as far as they are known -/
def globM : List (Option V) → List (Option (Bool × V))
  | [] => []
  | none :: r => none :: globM r
  | some v :: r => some (false, v) :: globM r
def globOK : List (Option V) → List (Option (Bool × V)) → Bool
  | [], _ => true
  | none :: r, _ :: m => globOK r m
  | some v :: r, some (false, u) :: m => v.eqK u && globOK r m
  | _, _ => false

/-- The state at a function's beginning. -/
def start (gl : List (Option V)) (n : Nat) (l : List Ac) (x : Acs.T l) : St :=
  ⟨frame0 n (Acs.vals gl.length l x), globM gl ++ Acs.blks l x⟩

/-- Results: plain data; a slice of its own. -/
inductive Rc where
  | v (c : Cd)
  | own (c : Cd)

def Rc.cd : Rc → Cd | .v c => c | .own c => c
def Rcs.T : List Rc → Type
  | [] => Unit
  | a :: r => a.cd.T × Rcs.T r
def Rc.dec (m : List (Option (Bool × V))) : (c : Rc) → V → Option c.cd.T
  | Rc.v c, x => c.dec x
  | Rc.own c, x => ownOf m c x
def Rcs.dec (m : List (Option (Bool × V))) : (l : List Rc) → List V → Option (Rcs.T l)
  | [], [] => some ()
  | c :: r, v :: vs => match c.dec m v with
    | some x => match Rcs.dec m r vs with | some y => some (x, y) | none => none
    | none => none
  | _, _ => none
def Rcs.vals (nx : Nat) : (l : List Rc) → Rcs.T l → List V
  | [], _ => []
  | .v c :: r, x => c.enc x.1 :: Rcs.vals nx r x.2
  | .own _ :: r, x => .own nx :: Rcs.vals (nx + 1) r x.2
def Rcs.blks : (l : List Rc) → Rcs.T l → List V
  | [], _ => []
  | .v _ :: r, x => Rcs.blks r x.2
  | .own c :: r, x => c.enc x.1 :: Rcs.blks r x.2

/-- names that results bring -/
def Rcs.gives : List Rc → List V → List Nat
  | .own _ :: r, v :: vs => v.names ++ Rcs.gives r vs
  | _ :: r, _ :: vs => Rcs.gives r vs
  | _, _ => []

/-- the changed blocks' contents -/
def Muts.dec (m : List (Option (Bool × V))) : (l : List Cd) → List Nat → Option (Cd.TL l)
  | [], [] => some ()
  | c :: r, b :: bs => match mget m b with
    | some (true, v) => match c.dec v with
      | some x => match Muts.dec m r bs with | some y => some (x, y) | none => none
      | none => none
    | _ => none
  | _, _ => none
def Muts.upd : (l : List Cd) → Cd.TL l → List Nat → List (Nat × V)
  | c :: r, x, b :: bs => (b, c.enc x.1) :: Muts.upd r x.2 bs
  | _, _, _ => []

/-- What a function answers, by the evaluator: its results, and what it leaves in the blocks that it changes. -/
def fun_ (E : Env) (fn : Func) (l : List Ac) (r : List Rc) (x : Acs.T l) : Option (Rcs.T r × Cd.TL (Acs.mutC l)) :=
  match fn.body with
  | some c => ev E 200 (Rcs.T r × Cd.TL (Acs.mutC l)) 0 [] c (start E.gl fn.ntmps l x) fun e s =>
    let out := retK E s fn.results.toList fun vs => if (nodup (Rcs.gives r vs) && disj (Rcs.gives r vs) (Acs.mutN E.gl.length l)) = true then match Rcs.dec s.m r vs with
      | some y => match Muts.dec s.m (Acs.mutC l) (Acs.mutN E.gl.length l) with
        | some z => some (y, z)
        | none => none
      | none => none
      else none
    match e with | .normal => out | .ret => out | _ => none
  | none => none

/-- The contract, as callers use it. -/
def sigOf (gl : List (Option V)) (l : List Ac) (r : List Rc) (f : Acs.T l → Option (Rcs.T r × Cd.TL (Acs.mutC l))) : Sig := fun _ args m K =>
  if globOK gl m = true ∧ (nodup (Acs.muts l args) && disj (Acs.muts l args) (Acs.refs l args)) = true then match Acs.dec m l args with
    | some x => Acs.chk l args (obind (f x) fun y => K (ret1 (Rcs.vals m.length r y.1)) (Rcs.blks r y.1) (Muts.upd (Acs.mutC l) y.2 (Acs.muts l args)))
    | none => none
  else none

end Go.Ev

/-
  What an abstract value, memory, state stands for, in the model's own world.
-/
namespace Go.Ev

structure Info where
  nil : Bool
  blk : Nat
  base : Nat
  psz : Nat
  cn : Nat
  n : Nat
  es : Nat

abbrev Ren := Nat → Option Info
abbrev Mem := Nat → Option (Bool × V)

def InR (k : IntKind) (n : Int) : Prop := k.min ≤ n ∧ n ≤ k.max

def bytesOf (l : List Int) (s : ByteArray) : Prop := l = s.data.toList.map fun b => (b.toNat : Int)

/-- the value of one or more cells, by the kind of the abstract one -/
def wrapR (v : V) (C : List Value → Prop) (x : Value) : Prop :=
  match v with
  | .dead => True
  | .ints _ _ _ | .bools _ _ | .agg _ => ∃ cs : List Value, x = .agg cs.toArray ∧ C cs
  | .tuple _ => ∃ cs : List Value, x = .tuple cs.toArray ∧ C cs
  | .row _ _ | .rows _ _ _ | .brow _ | .srow _ => False
  | _ => C [x]

mutual
/-- The cells of a value, or of a block's content; of a tuple: its values. -/
def Cells (ρ : Ren) : V → List Value → Prop
  | .dead, _ => False
  | .bool b, cs => cs = [.bool b]
  | .int k n, cs => cs = [.int k n] ∧ InR k n
  | .str l, cs => ∃ s, cs = [.string s] ∧ bytesOf l s
  | .nilptr, cs => cs = [.pointer none]
  | .ptr b base ext off sz, cs => ∃ p, ρ b = some p ∧ p.nil = false ∧ 0 ≤ off ∧ (off.toNat + sz ≤ ext ∧ base + ext ≤ p.cn) ∧ cs = [.pointer (some ⟨p.blk, p.base + (base + off.toNat), none⟩)]
  | .rptr b i off sz, cs => ∃ p, ρ b = some p ∧ p.nil = false ∧ 0 ≤ i ∧ i.toNat < p.n ∧ 0 ≤ off ∧ off.toNat + sz ≤ p.es ∧ cs = [.pointer (some ⟨p.blk, p.base + (i.toNat * p.es + off.toNat), none⟩)]
  | .nilsl, cs => cs = [.slice none 0 0]
  | .own b, cs => ∃ p, ρ b = some p ∧ ((p.nil = true ∧ cs = [.slice none 0 0]) ∨ (p.nil = false ∧ ∃ cap, p.n ≤ cap ∧ p.base + cap * p.es ≤ p.psz ∧ cs = [.slice (some ⟨p.blk, p.base, none⟩) p.n cap]))
  | .sl b off len, cs => ∃ p, ρ b = some p ∧ 0 ≤ off ∧ 0 ≤ len ∧ off + len ≤ p.n ∧
      ((p.nil = true ∧ cs = [.slice none 0 0]) ∨ (p.nil = false ∧ ∃ cap a, off.toNat + len.toNat ≤ cap ∧ p.base + cap * p.es ≤ p.psz ∧ cs = [.slice (some a) len.toNat (cap - off.toNat)] ∧
        (off.toNat < cap ∨ off = 0 → a = ⟨p.blk, p.base + off.toNat * p.es, none⟩)))
  | .nilfn, cs => cs = [.nilFunc]
  | .fn f a c, cs => ∃ xs ys : List Value, cs = [.func (.func f) xs.toArray ys.toArray] ∧ VRL ρ a xs ∧ VRL ρ c ys
  | .niliface, cs => cs = [.nilIface]
  | .iface t v, cs => ∃ x, cs = [.iface t x] ∧ wrapR v (Cells ρ v) x ∧ v ≠ .dead
  | .ints k n l, cs => cs = l.map (Value.int k) ∧ l.length = n ∧ ∀ x ∈ l, InR k x
  | .bools n l, cs => cs = l.map Value.bool ∧ l.length = n
  | .agg vs, cs => CellsL ρ vs cs
  | .tuple vs, cs => VRL ρ vs cs
  | .row k l, cs => cs = l.map (Value.int k) ∧ ∀ x ∈ l, InR k x
  | .rows k n l, cs => cs = l.flatten.map (Value.int k) ∧ (∀ x ∈ l, x.length = n) ∧ ∀ x ∈ l, ∀ y ∈ x, InR k y
  | .brow l, cs => cs = l.map Value.bool
  | .srow l, cs => ∃ ss : List ByteArray, cs = ss.map Value.string ∧ l.length = ss.length ∧ ∀ (i : Nat) (s : ByteArray), ss[i]? = some s → ∃ x, l[i]? = some x ∧ bytesOf x s
/-- one behind the other -/
def CellsL (ρ : Ren) : List V → List Value → Prop
  | [], cs => cs = []
  | v :: vs, cs => ∃ c1 c2, cs = c1 ++ c2 ∧ (c1.length = v.size ∧ v.flat = true) ∧ Cells ρ v c1 ∧ CellsL ρ vs c2
def VRL (ρ : Ren) : List V → List Value → Prop
  | [], xs => xs = []
  | v :: vs, xs => ∃ x r, xs = x :: r ∧ wrapR v (Cells ρ v) x ∧ VRL ρ vs r
end

def VR (ρ : Ren) (v : V) (x : Value) : Prop := wrapR v (Cells ρ v) x

def Sub (ρ ρ' : Ren) : Prop := ∀ b p, ρ b = some p → ρ' b = some p
theorem Sub.refl (ρ : Ren) : Sub ρ ρ := fun _ _ h => h
theorem Sub.trans {a b c : Ren} (h : Sub a b) (h' : Sub b c) : Sub a c := fun x p e => h' x p (h x p e)

theorem wrapR_mono {v : V} {C D : List Value → Prop} (h : ∀ cs, C cs → D cs) {x : Value} (hx : wrapR v C x) : wrapR v D x := by
  cases v <;> simp only [wrapR] at hx ⊢ <;> first
    | exact h _ hx
    | (obtain ⟨cs, e, hc⟩ := hx; exact ⟨cs, e, h _ hc⟩)

mutual
theorem Cells.mono {ρ ρ' : Ren} (hs : Sub ρ ρ') : ∀ (v : V) (cs : List Value), Cells ρ v cs → Cells ρ' v cs
  | .dead, _, h => h
  | .bool _, _, h => h
  | .int _ _, _, h => h
  | .str _, _, h => h
  | .nilptr, _, h => h
  | .ptr _ _ _ _ _, _, h => by
    simp only [Cells] at h ⊢
    obtain ⟨p, hp, r⟩ := h
    exact ⟨p, hs _ _ hp, r⟩
  | .rptr _ _ _ _, _, h => by
    simp only [Cells] at h ⊢
    obtain ⟨p, hp, r⟩ := h
    exact ⟨p, hs _ _ hp, r⟩
  | .nilsl, _, h => h
  | .own _, _, h => by
    simp only [Cells] at h ⊢
    obtain ⟨p, hp, r⟩ := h
    exact ⟨p, hs _ _ hp, r⟩
  | .sl _ _ _, _, h => by
    simp only [Cells] at h ⊢
    obtain ⟨p, hp, r⟩ := h
    exact ⟨p, hs _ _ hp, r⟩
  | .nilfn, _, h => h
  | .fn _ a c, _, h => by
    simp only [Cells] at h ⊢
    obtain ⟨xs, ys, e, h1, h2⟩ := h
    exact ⟨xs, ys, e, VRL.mono hs a xs h1, VRL.mono hs c ys h2⟩
  | .niliface, _, h => h
  | .iface _ v, _, h => by
    simp only [Cells] at h ⊢
    obtain ⟨x, e, h1, h2⟩ := h
    exact ⟨x, e, wrapR_mono (Cells.mono hs v) h1, h2⟩
  | .ints _ _ _, _, h => h
  | .bools _ _, _, h => h
  | .agg vs, cs, h => CellsL.mono hs vs cs h
  | .tuple vs, cs, h => VRL.mono hs vs cs h
  | .row _ _, _, h => h
  | .rows _ _ _, _, h => h
  | .brow _, _, h => h
  | .srow _, _, h => h
theorem CellsL.mono {ρ ρ' : Ren} (hs : Sub ρ ρ') : ∀ (vs : List V) (cs : List Value), CellsL ρ vs cs → CellsL ρ' vs cs
  | [], _, h => h
  | v :: vs, _, h => by
    simp only [CellsL] at h ⊢
    obtain ⟨c1, c2, e, hl, h1, h2⟩ := h
    exact ⟨c1, c2, e, hl, Cells.mono hs v c1 h1, CellsL.mono hs vs c2 h2⟩
theorem VRL.mono {ρ ρ' : Ren} (hs : Sub ρ ρ') : ∀ (vs : List V) (xs : List Value), VRL ρ vs xs → VRL ρ' vs xs
  | [], _, h => h
  | v :: vs, _, h => by
    simp only [VRL] at h ⊢
    obtain ⟨x, r, e, h1, h2⟩ := h
    exact ⟨x, r, e, wrapR_mono (Cells.mono hs v) h1, VRL.mono hs vs r h2⟩
end

theorem VR.mono {ρ ρ' : Ren} (hs : Sub ρ ρ') {v : V} {x : Value} (h : VR ρ v x) : VR ρ' v x := wrapR_mono (Cells.mono hs v) h

theorem CellsL.length {ρ : Ren} : ∀ (vs : List V) (cs : List Value), CellsL ρ vs cs → cs.length = V.sizeL vs
  | [], _, h => by simp only [CellsL] at h; simp [h, V.sizeL]
  | v :: vs, _, h => by
    simp only [CellsL] at h
    obtain ⟨c1, c2, rfl, hl, _, h2⟩ := h
    simp [V.sizeL, hl.1, CellsL.length vs c2 h2]

theorem Cells.length {ρ : Ren} : ∀ (v : V) (cs : List Value), v.flat = true → Cells ρ v cs → cs.length = v.size := by
  intro v cs hf h
  cases v <;> first
    | (simp [V.flat] at hf; done)
    | (simp only [Cells] at h; first
        | (subst h; simp [V.size]; done)
        | (obtain ⟨rfl, _⟩ := h; simp [V.size]; done)
        | (obtain ⟨rfl, rfl, _⟩ := h; simp [V.size]; done)
        | (obtain ⟨rfl, rfl⟩ := h; simp [V.size]; done)
        | (obtain ⟨_, rfl, _⟩ := h; simp [V.size]; done)
        | (obtain ⟨_, _, rfl, _⟩ := h; simp [V.size]; done)
        | (obtain ⟨_, _, _, _, _, rfl⟩ := h; simp [V.size]; done)
        | (obtain ⟨_, _, _, _, _, _, _, rfl⟩ := h; simp [V.size]; done)
        | (obtain ⟨_, _, (⟨_, rfl⟩ | ⟨_, _, _, _, rfl⟩)⟩ := h <;> simp [V.size]; done)
        | (obtain ⟨_, _, _, _, _, (⟨_, rfl⟩ | ⟨_, _, _, _, _, rfl, _⟩)⟩ := h <;> simp [V.size]; done)
        | exact CellsL.length _ _ h)

mutual
theorem Cells.one {ρ : Ren} : ∀ (v : V) (cs : List Value), (∀ vs, v ≠ .tuple vs) → Cells ρ v cs → ∀ x ∈ cs, x.oneCell' = true
  | .dead, _, _, h => h.elim
  | .bool _, _, _, h => by simp only [Cells] at h; subst h; simp [Value.oneCell']
  | .int _ _, _, _, h => by simp only [Cells] at h; obtain ⟨rfl, _⟩ := h; simp [Value.oneCell']
  | .str _, _, _, h => by simp only [Cells] at h; obtain ⟨_, rfl, _⟩ := h; simp [Value.oneCell']
  | .nilptr, _, _, h => by simp only [Cells] at h; subst h; simp [Value.oneCell']
  | .ptr _ _ _ _ _, _, _, h => by simp only [Cells] at h; obtain ⟨_, _, _, _, _, rfl⟩ := h; simp [Value.oneCell']
  | .rptr _ _ _ _, _, _, h => by simp only [Cells] at h; obtain ⟨_, _, _, _, _, _, _, rfl⟩ := h; simp [Value.oneCell']
  | .nilsl, _, _, h => by simp only [Cells] at h; subst h; simp [Value.oneCell']
  | .own _, _, _, h => by simp only [Cells] at h; obtain ⟨_, _, (⟨_, rfl⟩ | ⟨_, _, _, _, rfl⟩)⟩ := h <;> simp [Value.oneCell']
  | .sl _ _ _, _, _, h => by simp only [Cells] at h; obtain ⟨_, _, _, _, _, (⟨_, rfl⟩ | ⟨_, _, _, _, _, rfl, _⟩)⟩ := h <;> simp [Value.oneCell']
  | .nilfn, _, _, h => by simp only [Cells] at h; subst h; simp [Value.oneCell']
  | .fn _ _ _, _, _, h => by simp only [Cells] at h; obtain ⟨_, _, rfl, _⟩ := h; simp [Value.oneCell']
  | .niliface, _, _, h => by simp only [Cells] at h; subst h; simp [Value.oneCell']
  | .iface _ _, _, _, h => by simp only [Cells] at h; obtain ⟨_, rfl, _⟩ := h; simp [Value.oneCell']
  | .ints _ _ _, _, _, h => by simp only [Cells] at h; obtain ⟨rfl, _⟩ := h; simp [Value.oneCell']
  | .bools _ _, _, _, h => by
    simp only [Cells] at h; obtain ⟨rfl, _⟩ := h
    intro x hx
    obtain ⟨y, _, rfl⟩ := List.mem_map.1 hx
    rfl
  | .agg vs, cs, _, h => CellsL.one vs cs h
  | .tuple vs, _, hn, _ => (hn vs rfl).elim
  | .row _ _, _, _, h => by simp only [Cells] at h; obtain ⟨rfl, _⟩ := h; simp [Value.oneCell']
  | .rows _ _ _, _, _, h => by
    simp only [Cells] at h; obtain ⟨rfl, _⟩ := h
    intro x hx
    obtain ⟨y, _, rfl⟩ := List.mem_map.1 hx
    rfl
  | .brow _, _, _, h => by
    simp only [Cells] at h; subst h
    intro x hx
    obtain ⟨y, _, rfl⟩ := List.mem_map.1 hx
    rfl
  | .srow _, _, _, h => by simp only [Cells] at h; obtain ⟨_, rfl, _⟩ := h; simp [Value.oneCell']
theorem CellsL.one {ρ : Ren} : ∀ (vs : List V) (cs : List Value), CellsL ρ vs cs → ∀ x ∈ cs, x.oneCell' = true
  | [], _, h => by simp only [CellsL] at h; subst h; simp
  | v :: vs, _, h => by
    simp only [CellsL] at h
    obtain ⟨c1, c2, rfl, hl, h1, h2⟩ := h
    intro x hx
    rcases List.mem_append.1 hx with hx | hx
    · refine Cells.one v c1 ?_ h1 x hx
      intro us hu
      subst hu
      simp [V.flat] at hl
    · exact CellsL.one vs c2 h2 x hx
end

end Go.Ev

/-
  Parts of a block's content, read and written: what the evaluator's words for them stand for.
-/
namespace Go.Ev

theorem posn_eq {base : Nat} {off : Int} (h : 0 ≤ off) : posn base off = base + off.toNat := by
  cases base with
  | zero => simp [posn]
  | succ b => simp only [posn]; omega

def V.scal : V → Bool
  | .dead | .tuple _ | .row _ _ | .rows _ _ _ | .brow _ | .srow _ | .ints _ _ _ | .bools _ _ | .agg _ => false
  | _ => true

theorem V.scal_flat {v : V} (h : v.scal = true) : v.flat = true := by cases v <;> simp_all [V.scal, V.flat]
theorem V.scal_size {v : V} (h : v.scal = true) : v.size = 1 := by cases v <;> simp_all [V.scal, V.size]
theorem VR_scal {ρ : Ren} {v : V} {x : Value} (h : v.scal = true) : VR ρ v x ↔ Cells ρ v [x] := by cases v <;> simp_all [V.scal, VR, wrapR]
theorem Cells_scal {ρ : Ren} {v : V} {cs : List Value} (h : v.scal = true) (hc : Cells ρ v cs) : ∃ x, cs = [x] ∧ VR ρ v x := by
  have hl := Cells.length v cs (V.scal_flat h) hc
  rw [V.scal_size h] at hl
  match cs, hl with
  | [x], _ => exact ⟨x, rfl, (VR_scal h).2 hc⟩

section
variable {R : Type} {ρ : Ren}

theorem cut_map {α β : Type} (f : α → β) (l : List α) (i n : Nat) : cut (l.map f) i n = (cut l i n).map f := by simp [cut, List.map_take, List.map_drop]
theorem cut_length {α : Type} (l : List α) (i n : Nat) (h : i + n ≤ l.length) : (cut l i n).length = n := by simp [cut]; omega
theorem cut_mem {α : Type} {l : List α} {i n : Nat} {x : α} (h : x ∈ cut l i n) : x ∈ l := List.mem_of_mem_drop (List.mem_of_mem_take h)
theorem cut_all {α : Type} (l : List α) (n : Nat) (h : l.length = n) : cut l 0 n = l := by simp [cut, ← h]

theorem at0_some {l : List Int} {i : Nat} (h : i < l.length) : l[i]? = some (at0 l i) := by simp [at0, List.getD, List.getElem?_eq_getElem h]
theorem at0_mem {l : List Int} {i : Nat} (h : i < l.length) : at0 l i ∈ l := List.mem_of_getElem? (at0_some h)
theorem atb_some {l : List Bool} {i : Nat} (h : i < l.length) : l[i]? = some (atb l i) := by simp [atb, List.getD, List.getElem?_eq_getElem h]
theorem atl_some {l : List (List Int)} {i : Nat} (h : i < l.length) : l[i]? = some (atl l i) := by simp [atl, List.getD, List.getElem?_eq_getElem h]
theorem atl_mem {l : List (List Int)} {i : Nat} (h : i < l.length) : atl l i ∈ l := List.mem_of_getElem? (atl_some h)

theorem VR_ints {k : IntKind} {n : Nat} {l : List Int} (hl : l.length = n) (hr : ∀ x ∈ l, InR k x) : VR ρ (.ints k n l) (.agg (l.map (Value.int k)).toArray) :=
  ⟨_, rfl, rfl, hl, hr⟩
theorem VR_bools {n : Nat} {l : List Bool} (hl : l.length = n) : VR ρ (.bools n l) (.agg (l.map Value.bool).toArray) := ⟨_, rfl, rfl, hl⟩
theorem VR_int {k : IntKind} {n : Int} (h : InR k n) : VR ρ (.int k n) (.int k n) := ⟨rfl, h⟩
theorem VR_bool {b : Bool} : VR ρ (.bool b) (.bool b) := rfl

/-- What reading a part gives. -/
def SubPost (ρ : Ren) (cs : List Value) (p : Nat) (ag : Bool) (sz : Nat) (v : V) : Prop :=
  (ag = true → VR ρ v (.agg (cut cs p sz).toArray)) ∧ (ag = false → ∃ x, cs[p]? = some x ∧ VR ρ v x)

theorem SubPost.right {c1 c2 : List Value} {p : Nat} {ag : Bool} {sz : Nat} {v : V} (h : SubPost ρ c2 p ag sz v) : SubPost ρ (c1 ++ c2) (c1.length + p) ag sz v := by
  refine ⟨fun e => ?_, fun e => ?_⟩
  · have := h.1 e
    rwa [show cut (c1 ++ c2) (c1.length + p) sz = cut c2 p sz by
      rw [cut, ← List.drop_drop, List.drop_left]
      rfl]
  · obtain ⟨x, hx, hv⟩ := h.2 e
    exact ⟨x, by simpa [List.getElem?_append_right] using hx, hv⟩

theorem SubPost.left {c1 c2 : List Value} {p : Nat} {ag : Bool} {sz : Nat} {v : V} (h : SubPost ρ c1 p ag sz v) (hp : p + sz ≤ c1.length) (hz : 0 < sz) : SubPost ρ (c1 ++ c2) p ag sz v := by
  refine ⟨fun e => ?_, fun e => ?_⟩
  · have := h.1 e
    rwa [show cut (c1 ++ c2) p sz = cut c1 p sz by
      simp only [cut]
      rw [List.drop_append_of_le_length (by omega), List.take_append_of_le_length (by simp; omega)]]
  · obtain ⟨x, hx, hv⟩ := h.2 e
    exact ⟨x, by rw [List.getElem?_append_left (by omega)]; exact hx, hv⟩

theorem sub_scal {v : V} {base ext : Nat} {off : Int} {ag : Bool} {sz : Nat} {K : V → Option R} {r : R} {cs : List Value} (hs : v.scal = true)
    (ht : ag = true → v.sub base ext off ag sz K = none) (hf : ag = false → v.sub base ext off ag sz K = K v)
    (h : v.sub base ext off ag sz K = some r) (hc : Cells ρ v cs) (h1 : off.toNat + sz ≤ ext) (h2 : base + ext ≤ cs.length) (h3 : 0 < sz) :
    ∃ u, K u = some r ∧ SubPost ρ cs (base + off.toNat) ag sz u := by
  cases ag with
  | true => simp [ht rfl] at h
  | false =>
    rw [hf rfl] at h
    obtain ⟨x, rfl, hx⟩ := Cells_scal hs hc
    simp at h2
    refine ⟨v, h, (by simp), fun _ => ⟨x, ?_, hx⟩⟩
    rw [show base + off.toNat = 0 by omega]
    rfl

theorem obind_lt {α β γ : Type} (x : α) (f : α → Option β) (g : β → Option γ) : obind (lt x f) g = lt x fun y => obind (f y) g := rfl

mutual
/-- reading a part, and going on -/
theorem sub_bind : ∀ (c : V) (base ext : Nat) (off : Int) (ag : Bool) (sz : Nat) (K : V → Option R), c.sub base ext off ag sz K = obind (c.sub base ext off ag sz some) K
  | .ints k n l, base, ext, off, ag, sz, K => by
    cases ag <;> simp only [V.sub, lt, obind]
    split <;> rfl
  | .bools n l, base, ext, off, ag, sz, K => by
    cases ag <;> simp only [V.sub, lt, obind]
    split <;> rfl
  | .agg vs, base, ext, off, ag, sz, K => by
    simp only [V.sub]
    split
    · rfl
    · exact subL_bind vs base ext off ag sz K
  | .row _ _, _, _, _, ag, _, _ => by cases ag <;> rfl
  | .brow _, _, _, _, ag, _, _ => by cases ag <;> rfl
  | .srow _, _, _, _, ag, _, _ => by cases ag <;> rfl
  | .rows _ _ _, _, _, _, _, _, _ => rfl
  | .dead, _, _, _, _, _, _ => rfl
  | .tuple _, _, _, _, _, _, _ => rfl
  | .bool _, _, _, _, ag, _, _ => by cases ag <;> rfl
  | .int _ _, _, _, _, ag, _, _ => by cases ag <;> rfl
  | .str _, _, _, _, ag, _, _ => by cases ag <;> rfl
  | .nilptr, _, _, _, ag, _, _ => by cases ag <;> rfl
  | .ptr _ _ _ _ _, _, _, _, ag, _, _ => by cases ag <;> rfl
  | .rptr _ _ _ _, _, _, _, ag, _, _ => by cases ag <;> rfl
  | .nilsl, _, _, _, ag, _, _ => by cases ag <;> rfl
  | .own _, _, _, _, ag, _, _ => by cases ag <;> rfl
  | .sl _ _ _, _, _, _, ag, _, _ => by cases ag <;> rfl
  | .nilfn, _, _, _, ag, _, _ => by cases ag <;> rfl
  | .fn _ _ _, _, _, _, ag, _, _ => by cases ag <;> rfl
  | .niliface, _, _, _, ag, _, _ => by cases ag <;> rfl
  | .iface _ _, _, _, _, ag, _, _ => by cases ag <;> rfl
theorem subL_bind : ∀ (vs : List V) (base ext : Nat) (off : Int) (ag : Bool) (sz : Nat) (K : V → Option R), V.subL vs base ext off ag sz K = obind (V.subL vs base ext off ag sz some) K
  | [], _, _, _, _, _, _ => rfl
  | v :: vs, base, ext, off, ag, sz, K => by
    simp only [V.subL]
    split
    · split
      · exact sub_bind v base ext off ag sz K
      · split
        · cases decide (off = 0)
          · exact subL_bind vs 0 (ext - 1) (off - 1) ag sz K
          · exact sub_bind v 0 1 0 ag 1 K
        · rfl
    · exact subL_bind vs (base - v.size) ext off ag sz K
end

theorem obind_some {α β : Type} {x : Option α} {f : α → Option β} {r : β} (h : obind x f = some r) : ∃ a, x = some a ∧ f a = some r := by
  cases x with
  | none => cases h
  | some a => exact ⟨a, rfl, h⟩

mutual
theorem sub_ok : ∀ (c : V) (base ext : Nat) (off : Int) (ag : Bool) (sz : Nat) (K : V → Option R) (r : R) (cs : List Value),
    c.sub base ext off ag sz K = some r → Cells ρ c cs → 0 ≤ off → off.toNat + sz ≤ ext → base + ext ≤ cs.length → 0 < sz →
    ∃ v, K v = some r ∧ SubPost ρ cs (base + off.toNat) ag sz v
  | .ints k n l, base, ext, off, ag, sz, K, r, cs, h, hc, h0, h1, h2, h3 => by
    simp only [Cells] at hc
    obtain ⟨rfl, hl, hr⟩ := hc
    simp at h2
    simp only [V.sub, posn_eq h0, lt] at h
    cases ag with
    | true =>
      simp only at h
      split at h
      · rename_i e
        refine ⟨_, h, fun _ => ?_, by simp⟩
        rw [show base + off.toNat = 0 by omega, cut_all _ _ (by simp; omega)]
        exact VR_ints hl hr
      · refine ⟨_, h, fun _ => ?_, by simp⟩
        rw [cut_map]
        exact VR_ints (cut_length _ _ _ (by omega)) fun x hx => hr x (cut_mem hx)
    | false =>
      simp only at h
      refine ⟨_, h, by simp, fun _ => ⟨.int k (at0 l (base + off.toNat)), ?_, VR_int (hr _ (at0_mem (by omega)))⟩⟩
      rw [List.getElem?_map, at0_some (by omega)]
      rfl
  | .bools n l, base, ext, off, ag, sz, K, r, cs, h, hc, h0, h1, h2, h3 => by
    simp only [Cells] at hc
    obtain ⟨rfl, hl⟩ := hc
    simp at h2
    simp only [V.sub, posn_eq h0, lt] at h
    cases ag with
    | true =>
      simp only at h
      split at h
      · rename_i e
        refine ⟨_, h, fun _ => ?_, by simp⟩
        rw [show base + off.toNat = 0 by omega, cut_all _ _ (by simp; omega)]
        exact VR_bools hl
      · refine ⟨_, h, fun _ => ?_, by simp⟩
        rw [cut_map]
        exact VR_bools (cut_length _ _ _ (by omega))
    | false =>
      simp only at h
      refine ⟨_, h, by simp, fun _ => ⟨.bool (atb l (base + off.toNat)), ?_, VR_bool⟩⟩
      rw [List.getElem?_map, atb_some (by omega)]
      rfl
  | .agg vs, base, ext, off, ag, sz, K, r, cs, h, hc, h0, h1, h2, h3 => by
    simp only [Cells] at hc
    simp only [V.sub] at h
    have hl := CellsL.length vs cs hc
    split at h
    · rename_i e
      obtain ⟨e1, e2⟩ := e
      refine ⟨_, h, fun _ => ?_, by simp [e2]⟩
      rw [show base + off.toNat = 0 by omega, cut_all _ _ (by omega)]
      exact ⟨cs, rfl, hc⟩
    · exact subL_ok vs base ext off ag sz K r cs h hc h0 h1 h2 h3
  | .row k l, base, ext, off, ag, sz, K, r, cs, h, hc, h0, h1, h2, h3 => by
    simp only [Cells] at hc
    obtain ⟨rfl, hr⟩ := hc
    simp at h2
    simp only [V.sub, posn_eq h0, lt] at h
    cases ag with
    | true =>
      simp only at h
      refine ⟨_, h, fun _ => ?_, by simp⟩
      rw [cut_map]
      exact VR_ints (cut_length _ _ _ (by omega)) fun x hx => hr x (cut_mem hx)
    | false =>
      simp only at h
      refine ⟨_, h, by simp, fun _ => ⟨.int k (at0 l (base + off.toNat)), ?_, VR_int (hr _ (at0_mem (by omega)))⟩⟩
      rw [List.getElem?_map, at0_some (by omega)]
      rfl
  | .brow l, base, ext, off, ag, sz, K, r, cs, h, hc, h0, h1, h2, h3 => by
    simp only [Cells] at hc
    subst hc
    simp at h2
    simp only [V.sub, posn_eq h0, lt] at h
    cases ag with
    | true => simp at h
    | false =>
      simp only at h
      refine ⟨_, h, by simp, fun _ => ⟨.bool (atb l (base + off.toNat)), ?_, VR_bool⟩⟩
      rw [List.getElem?_map, atb_some (by omega)]
      rfl
  | .srow l, base, ext, off, ag, sz, K, r, cs, h, hc, h0, h1, h2, h3 => by
    simp only [Cells] at hc
    obtain ⟨ss, rfl, hl, hs⟩ := hc
    simp at h2
    simp only [V.sub, posn_eq h0, lt] at h
    cases ag with
    | true => simp at h
    | false =>
      simp only at h
      have hlt : base + off.toNat < ss.length := by omega
      obtain ⟨x, hx, hb⟩ := hs _ _ (List.getElem?_eq_getElem hlt)
      rw [atl_some (by omega)] at hx
      cases hx
      exact ⟨_, h, by simp, fun _ => ⟨.string ss[base + off.toNat], by simp [List.getElem?_eq_getElem hlt], _, rfl, hb⟩⟩
  | .rows _ _ _, _, _, _, _, _, _, _, _, h, _, _, _, _, _ => by simp [V.sub] at h
  | .dead, _, _, _, _, _, _, _, _, h, _, _, _, _, _ => by simp [V.sub] at h
  | .tuple _, _, _, _, _, _, _, _, _, h, _, _, _, _, _ => by simp [V.sub] at h
  | .bool _, _, _, _, _, _, _, _, _, h, hc, _, h1, h2, h3 => sub_scal rfl (fun e => by subst e; rfl) (fun e => by subst e; rfl) h hc h1 h2 h3
  | .int _ _, _, _, _, _, _, _, _, _, h, hc, _, h1, h2, h3 => sub_scal rfl (fun e => by subst e; rfl) (fun e => by subst e; rfl) h hc h1 h2 h3
  | .str _, _, _, _, _, _, _, _, _, h, hc, _, h1, h2, h3 => sub_scal rfl (fun e => by subst e; rfl) (fun e => by subst e; rfl) h hc h1 h2 h3
  | .nilptr, _, _, _, _, _, _, _, _, h, hc, _, h1, h2, h3 => sub_scal rfl (fun e => by subst e; rfl) (fun e => by subst e; rfl) h hc h1 h2 h3
  | .ptr _ _ _ _ _, _, _, _, _, _, _, _, _, h, hc, _, h1, h2, h3 => sub_scal rfl (fun e => by subst e; rfl) (fun e => by subst e; rfl) h hc h1 h2 h3
  | .rptr _ _ _ _, _, _, _, _, _, _, _, _, h, hc, _, h1, h2, h3 => sub_scal rfl (fun e => by subst e; rfl) (fun e => by subst e; rfl) h hc h1 h2 h3
  | .nilsl, _, _, _, _, _, _, _, _, h, hc, _, h1, h2, h3 => sub_scal rfl (fun e => by subst e; rfl) (fun e => by subst e; rfl) h hc h1 h2 h3
  | .own _, _, _, _, _, _, _, _, _, h, hc, _, h1, h2, h3 => sub_scal rfl (fun e => by subst e; rfl) (fun e => by subst e; rfl) h hc h1 h2 h3
  | .sl _ _ _, _, _, _, _, _, _, _, _, h, hc, _, h1, h2, h3 => sub_scal rfl (fun e => by subst e; rfl) (fun e => by subst e; rfl) h hc h1 h2 h3
  | .nilfn, _, _, _, _, _, _, _, _, h, hc, _, h1, h2, h3 => sub_scal rfl (fun e => by subst e; rfl) (fun e => by subst e; rfl) h hc h1 h2 h3
  | .fn _ _ _, _, _, _, _, _, _, _, _, h, hc, _, h1, h2, h3 => sub_scal rfl (fun e => by subst e; rfl) (fun e => by subst e; rfl) h hc h1 h2 h3
  | .niliface, _, _, _, _, _, _, _, _, h, hc, _, h1, h2, h3 => sub_scal rfl (fun e => by subst e; rfl) (fun e => by subst e; rfl) h hc h1 h2 h3
  | .iface _ _, _, _, _, _, _, _, _, _, h, hc, _, h1, h2, h3 => sub_scal rfl (fun e => by subst e; rfl) (fun e => by subst e; rfl) h hc h1 h2 h3
theorem subL_ok : ∀ (vs : List V) (base ext : Nat) (off : Int) (ag : Bool) (sz : Nat) (K : V → Option R) (r : R) (cs : List Value),
    V.subL vs base ext off ag sz K = some r → CellsL ρ vs cs → 0 ≤ off → off.toNat + sz ≤ ext → base + ext ≤ cs.length → 0 < sz →
    ∃ v, K v = some r ∧ SubPost ρ cs (base + off.toNat) ag sz v
  | [], _, _, _, _, _, _, _, _, h, _, _, _, _, _ => by simp [V.subL] at h
  | v :: vs, base, ext, off, ag, sz, K, r, cs, h, hc, h0, h1, h2, h3 => by
    simp only [CellsL] at hc
    obtain ⟨c1, c2, rfl, ⟨hl, hf⟩, hc1, hc2⟩ := hc
    simp only [List.length_append] at h2
    simp only [V.subL] at h
    split at h
    · split at h
      · obtain ⟨u, hu, hp⟩ := sub_ok v base ext off ag sz K r c1 h hc1 h0 h1 (by omega) h3
        exact ⟨u, hu, hp.left (by omega) h3⟩
      · split at h
        · rename_i hb _ hs
          obtain ⟨hs1, rfl⟩ := hs
          have hb0 : base = 0 := by omega
          subst hb0
          simp only [br_match] at h
          by_cases ho : off = 0
          · subst ho
            simp at h
            obtain ⟨u, hu, hp⟩ := sub_ok v 0 1 0 false 1 K r c1 h hc1 (by omega) (by simp) (by omega) (by omega)
            refine ⟨u, hu, by simp, fun e => ?_⟩
            obtain ⟨x, hx, hv⟩ := hp.2 rfl
            exact ⟨x, by rw [List.getElem?_append_left (by simp; omega)]; simpa using hx, hv⟩
          · simp [ho] at h
            obtain ⟨u, hu, hp⟩ := subL_ok vs 0 (ext - 1) (off - 1) false sz K r c2 h hc2 (by omega) (by omega) (by omega) h3
            refine ⟨u, hu, ?_⟩
            have := hp.right (c1 := c1)
            rwa [show c1.length + (0 + (off - 1).toNat) = 0 + off.toNat by omega] at this
        · cases h
    · obtain ⟨u, hu, hp⟩ := subL_ok vs (base - v.size) ext off ag sz K r c2 h hc2 h0 h1 (by omega) h3
      refine ⟨u, hu, ?_⟩
      have := hp.right (c1 := c1)
      rwa [show c1.length + (base - v.size + off.toNat) = base + off.toNat by omega] at this
end

/-- What 'sub' hands on, whatever world it stands for. -/
theorem sub_ok' {c : V} {base ext : Nat} {off : Int} {ag : Bool} {sz : Nat} {K : V → Option R} {r : R} (h : c.sub base ext off ag sz K = some r) :
    ∃ v, K v = some r ∧ ∀ (ρ : Ren) (cs : List Value), Cells ρ c cs → 0 ≤ off → off.toNat + sz ≤ ext → base + ext ≤ cs.length → 0 < sz → SubPost ρ cs (base + off.toNat) ag sz v := by
  rw [sub_bind] at h
  obtain ⟨v, hv, hk⟩ := obind_some h
  refine ⟨v, hk, fun ρ cs hc h0 h1 h2 h3 => ?_⟩
  obtain ⟨v', hv', hp⟩ := sub_ok c base ext off ag sz some v cs hv hc h0 h1 h2 h3
  cases hv'
  exact hp
end
end Go.Ev
