/-
  THE DENOTATION 'den' of the model's code: definitions. Read as a verification condition: each Go function's code is turned, by the kernel's own reduction, into a proposition over typed values and worlds. Its soundness stands in YtpcgkfgppfjnlaaGreatDoorVc2. | THE DENOTATION's SOUNDNESS, part 1: the operations that do not touch memory. | THE DENOTATION's SOUNDNESS, part 2: the operations that read memory. | THE DENOTATION's SOUNDNESS, part 3: readings of memory, and effects. | THE DENOTATION's SOUNDNESS, part 4: effects.
-/
import Derived.LoopN
import Derived.Orders
import Derived.Scope
import Derived.Eval
import Derived.Laws.World
import Derived.KernelRfl
import Derived.CallsIn
import Derived.TacticsIn
import Derived.Laws.Sem
import Derived.Laws.Entries
import Derived.ChangeKeysEq
import Derived.Laws.StructEq
import Derived.Laws.BytesString
import Derived.Laws.MakeOwn
import Derived.Laws.Externs
namespace Go.Proofs.YtpcgkfgppfjnlaaGreatDoor.V
open Go

abbrev Env := List (Nat × Value)
def look : Env → Nat → Option Value
  | [], _ => none
  | (s, v) :: r, t => bif Nat.beq s t then some v else look r t
def evalO (ρ : Env) : Operand → Value
  | .tmp t => (look ρ t).getD undef
  | .const v => v
  | .global g => .pointer (some ⟨g, 0, none⟩)
  | .func f => .func (.func f) #[] #[]
def defd (ρ : Env) : Operand → Bool
  | .tmp t => (look ρ t).isSome
  | _ => true
def putE (d : Option Nat) (v : Value) (ρ : Env) : Env :=
  match d with
  | some d => (d, v) :: ρ
  | none => ρ

/-- a slice value's three parts -/
structure Sl where
  p : Option Addr
  len : Nat
  cap : Nat
abbrev Sl.v (s : Sl) : Value := .slice s.p s.len s.cap
/-- a closure's parts -/
structure Cl where
  f : FuncId
  first : Array Value
  cap : Array Value
abbrev Cl.v (c : Cl) : Value := .func (.func c.f) c.first c.cap

inductive Kd where
  | int (k : IntKind) | bool | str | ptr | slc | map | fn
  | arr (k : IntKind) (n : Nat)
@[reducible] def KT : Kd → Type
  | .int _ => Int
  | .bool => Bool
  | .str => ByteArray
  | .ptr => Option Addr
  | .slc => Sl
  | .map => Option Nat
  | .fn => Cl
  | .arr _ _ => Nat → Int
def Kd.size : Kd → Nat
  | .arr _ n => n
  | _ => 1
/-- n numbers of a kind, as cells -/
def cellsA (k : IntKind) (d : Nat → Int) : Nat → Nat → List Value
  | _, 0 => []
  | i, n + 1 => .int k (d i) :: cellsA k d (i + 1) n
/-- an array of n numbers as a value -/
def arrV (k : IntKind) (n : Nat) (d : Nat → Int) : Value := .agg (cellsA k d 0 n).toArray
def cellsK : (k : Kd) → KT k → List Value
  | .int k, x => [.int k x]
  | .bool, x => [.bool x]
  | .str, x => [.string x]
  | .ptr, x => [.pointer x]
  | .slc, x => [.slice x.p x.len x.cap]
  | .map, x => [.map x]
  | .fn, x => [.func (.func x.f) x.first x.cap]
  | .arr k n, x => cellsA k x 0 n

/-- the cells from an address on hold these values -/
def atC (w : World) (p : Addr) : Nat → List Value → Prop
  | _, [] => True
  | o, v :: vs => w.cell? (p.add o) = some v ∧ atC w p (o + 1) vs
/-- a typed reading: what lies at p + o -/
def rd (k : Kd) (w : World) (p : Addr) (o : Nat) (K : KT k → Prop) : Prop :=
  ∃ x : KT k, atC w p o (cellsK k x) ∧ K x
def rdL (w : World) (p : Addr) : Nat → List Kd → (List Value → Prop) → Prop
  | _, [], K => K []
  | o, k :: ks, K => rd k w p o fun x => rdL w p (o + k.size) ks fun vs => K (cellsK k x ++ vs)

/-- the kinds of a type's cells -/
def kindsF (P : Program) : Nat → TypeId → Option (List Kd)
  | 0, _ => none
  | n + 1, t =>
    match P.underlying t with
    | some (.int k) => some [.int k]
    | some .bool => some [.bool]
    | some .string => some [.str]
    | some (.pointer _) => some [.ptr]
    | some (.slice _) => some [.slc]
    | some (.map _ _) => some [.map]
    | some (.func _ _ _) => some [.fn]
    | some (.array len e) =>
      match P.underlying e with
      | some (.int k) => some [.arr k len]
      | _ => (kindsF P n e).map fun ks => (List.replicate len ks).flatten
    | some (.struct fs) => fs.toList.foldr (fun f acc => match kindsF P n f.type, acc with
        | some a, some b => some (a ++ b)
        | _, _ => none) (some [])
    | _ => none
def kinds (P : Program) (t : TypeId) : Option (List Kd) := kindsF P 8 t
def isAggT (P : Program) (t : TypeId) : Bool :=
  match P.underlying t with
  | some (.struct _) | some (.array _ _) => true
  | _ => false
def sizeK : List Kd → Nat
  | [] => 0
  | k :: ks => k.size + sizeK ks
def sizeT (P : Program) (t : TypeId) : Option Nat := (P.info? t).map (·.size)
/-- cells put together to a value of a type -/
def mkV (agg : Bool) (vs : List Value) : Value :=
  if agg then .agg vs.toArray else
  match vs with
  | [v] => v
  | _ => undef

/-- what a load of type t at p reads -/
def ldT (P : Program) (t : TypeId) (w : World) (p : Addr) (K : List Value → Prop) : Prop :=
  match kinds P t with
  | some ks => if (match sizeT P t with
      | some n => Nat.beq (sizeK ks) n
      | none => false) && (isAggT P t || Nat.beq (sizeK ks) 1) then rdL w p 0 ks K else False
  | none => False

/-- typed values for these cells -/
def dcN : List Kd → (List Value → Prop) → Prop
  | [], F => F []
  | k :: ks, F => ∃ x : KT k, dcN ks fun r => F (cellsK k x ++ r)
/-- a result of type t: a typed value for it -/
def dcV (P : Program) (t : TypeId) (F : Value → Prop) : Prop :=
  match kinds P t with
  | some ks => if isAggT P t || Nat.beq (sizeK ks) 1 then dcN ks fun vs => F (mkV (isAggT P t) vs) else False
  | none => False
def dcTup (P : Program) : List TypeId → (List Value → Prop) → Prop
  | [], F => F []
  | t :: ts, F => dcV P t fun v => dcTup P ts fun r => F (v :: r)
/-- what came back from a call, by the type of the operation -/
def dcR (P : Program) (t : TypeId) (v : Value) (K : Value → Prop) : Prop :=
  match P.underlying t with
  | some (.tuple ts) => dcTup P ts.toList fun vs => v = .tuple vs.toArray ∧ K (.tuple vs.toArray)
  | _ => dcV P t fun u => v = u ∧ K u

/-- a branch on a bool -/
abbrev br (t : Bool) (A B : Prop) : Prop := cond t A B

def iand (k : IntKind) (x y : Int) : Int := k.wrap ((BitVec.ofInt k.bits x &&& BitVec.ofInt k.bits y).toNat : Int)
def ior (k : IntKind) (x y : Int) : Int := k.wrap ((BitVec.ofInt k.bits x ||| BitVec.ofInt k.bits y).toNat : Int)
def ixor (k : IntKind) (x y : Int) : Int := k.wrap ((BitVec.ofInt k.bits x ^^^ BitVec.ofInt k.bits y).toNat : Int)
def iandn (k : IntKind) (x y : Int) : Int := k.wrap ((BitVec.ofInt k.bits x &&& ~~~(BitVec.ofInt k.bits y)).toNat : Int)
def ishl (k : IntKind) (x y : Int) : Int := k.wrap (x * 2 ^ (min y.toNat k.bits))
def ishr (k : IntKind) (x y : Int) : Int := x.fdiv (2 ^ (min y.toNat k.bits))

def intBin (op : BinOp) (k : IntKind) (x y : Int) (K : Value → Prop) : Prop :=
  match op with
  | .add => K (.int k (k.wrap (x + y)))
  | .sub => K (.int k (k.wrap (x - y)))
  | .mul => K (.int k (k.wrap (x * y)))
  | .quo => y ≠ 0 ∧ K (.int k (k.wrap (x.tdiv y)))
  | .rem => y ≠ 0 ∧ K (.int k (x.tmod y))
  | .and => K (.int k (iand k x y))
  | .or => K (.int k (ior k x y))
  | .xor => K (.int k (ixor k x y))
  | .andNot => K (.int k (iandn k x y))
  | .eql => K (.bool (x == y))
  | .neq => K (.bool (x != y))
  | .lss => K (.bool (decide (x < y)))
  | .leq => K (.bool (decide (x ≤ y)))
  | .gtr => K (.bool (decide (x > y)))
  | .geq => K (.bool (decide (x ≥ y)))
  | _ => False

/-- are these all numbers, of one kind? -/
def allInt (k : IntKind) : List Value → Bool
  | [] => true
  | .int j _ :: r => (j == k) && allInt k r
  | _ => false
/-- two rows of numbers alike -/
def eqInts : List Value → List Value → Bool
  | .int _ x :: r, .int _ y :: s => (x == y) && eqInts r s
  | [], [] => true
  | _, _ => false

def aggEq (P : Program) (t : TypeId) (a b : Array Value) (K : Bool → Prop) : Prop :=
  match P.underlying t with
  | some (.array n e) =>
    match P.underlying e, sizeT P e with
    | some (.int k), some 1 => if Nat.beq a.size n && Nat.beq b.size n && allInt k a.toList && allInt k b.toList && !(P.eqGuardType P.depth t) then K (eqInts a.toList b.toList) else False
    | _, _ => False
  | _ => False
def binDn (P : Program) (op : BinOp) (t : TypeId) (x y : Value) (K : Value → Prop) : Prop :=
  match op, x, y with
  | .shl, .int k a, .int _ b => 0 ≤ b ∧ K (.int k (ishl k a b))
  | .shr, .int k a, .int _ b => 0 ≤ b ∧ K (.int k (ishr k a b))
  | op, .int k a, .int k' b => if k == k' then intBin op k a b K else False
  | .eql, .bool a, .bool b => if (P.underlying t matches some .bool) then K (.bool (a == b)) else False
  | .neq, .bool a, .bool b => if (P.underlying t matches some .bool) then K (.bool (!(a == b))) else False
  | .eql, .pointer a, .pointer none => if (P.underlying t matches some (.pointer _)) then K (.bool a.isNone) else False
  | .neq, .pointer a, .pointer none => if (P.underlying t matches some (.pointer _)) then K (.bool (!a.isNone)) else False
  | .eql, .slice a _ _, .slice none _ _ => if (P.underlying t matches some (.slice _)) then K (.bool a.isNone) else False
  | .neq, .slice a _ _, .slice none _ _ => if (P.underlying t matches some (.slice _)) then K (.bool (!a.isNone)) else False
  | .eql, .map a, .map none => if (P.underlying t matches some (.map _ _)) then K (.bool a.isNone) else False
  | .neq, .map a, .map none => if (P.underlying t matches some (.map _ _)) then K (.bool (!a.isNone)) else False
  | .eql, .agg a, .agg b => aggEq P t a b fun r => K (.bool r)
  | .neq, .agg a, .agg b => aggEq P t a b fun r => K (.bool (!r))
  | .eql, .string a, .string b => K (.bool (a == b))
  | .neq, .string a, .string b => K (.bool (!(a == b)))
  | _, _, _ => False

/-- the places of a struct's fields, with their sizes -/
def places (P : Program) (t : TypeId) : Option (List (Nat × Nat)) :=
  match P.underlying t with
  | some (.struct fs) => fs.toList.foldr (fun f acc => match sizeT P f.type, acc with
      | some s, some r => some ((f.offset, s) :: r)
      | _, _ => none) (some [])
  | _ => none

def sbound (x : Value) (y : Nat) (K : Nat → Prop) : Prop :=
  match x with
  | .int _ i => (0 ≤ i ∧ i ≤ (y : Int)) ∧ K i.toNat
  | _ => False
def sbounds (len cap : Nat) (lo hi mx : Option Value) (K : Nat → Nat → Nat → Prop) : Prop :=
  match lo, hi, mx with
  | none, none, none => K 0 len cap
  | some l, none, none => sbound l len fun l => K l len cap
  | none, some h, none => sbound h cap fun h => K 0 h cap
  | some l, some h, none => sbound h cap fun h => sbound l h fun l => K l h cap
  | none, some h, some m => sbound m cap fun m => sbound h m fun h => K 0 h m
  | some l, some h, some m => sbound m cap fun m => sbound h m fun h => sbound l h fun l => K l h m
  | _, _, _ => False
/-- where a slice begins that is cut at l -/
def cutAt (p : Option Addr) (m l size : Nat) : Option Addr := if m = l then p else p.map (·.add (l * size))

/-- an address that must be there -/
def nn (p : Option Addr) (K : Addr → Prop) : Prop :=
  match p with
  | some a => K a
  | none => False
def pureDn (P : Program) (o : Oper) (ρ : Operand → Value) (K : Value → Prop) : Prop :=
  match o.op with
  | .move x | .assign x => K (ρ x)
  | .pick c a b =>
    match ρ c with
    | .bool t => br t (K (ρ a)) (K (ρ b))
    | _ => False
  | .nilCheck x =>
    match ρ x with
    | .pointer p => nn p fun a => K (.pointer (some a))
    | .func (.func f) fi ca => K (.func (.func f) fi ca)
    | _ => False
  | .binOp op t x y _ => binDn P op t (ρ x) (ρ y) K
  | .unOp op _ x =>
    match op, ρ x with
    | .neg, .int k n => K (.int k (k.wrap (0 - n)))
    | .xor, .int k n => K (.int k (ixor k (if k.signed then -1 else k.max) n))
    | .not, .bool b => K (.bool !b)
    | _, _ => False
  | .convert src dst x =>
    match P.underlying src, P.underlying dst, ρ x with
    | some (.int _), some (.int k), .int _ n => K (.int k (k.wrap n))
    | _, _, _ => False
  | .fieldAddr s x f =>
    match P.underlying s with
    | some (.struct fs) =>
      match fs[f]? with
      | some fl => if Nat.blt 0 ((sizeT P fl.type).getD 0) then (match ρ x with
          | .pointer p => nn p fun a => K (.pointer (some (a.add fl.offset)))
          | _ => False) else False
      | none => False
    | _ => False
  | .field t x f =>
    match P.underlying t with
    | some (.struct fs) =>
      match fs[f]?, ρ x with
      | some fl, .agg cs =>
        if isAggT P fl.type then (match sizeT P fl.type with
          | some s => K (.agg ((cs.toList.drop fl.offset).take s).toArray)
          | none => False)
        else (match P.underlying fl.type, cs.toList[fl.offset]? with
          | some _, some v => K v
          | _, _ => False)
      | _, _ => False
    | _ => False
  | .indexAddr t x ix =>
    match ρ ix with
    | .int _ i =>
      match P.underlying t, ρ x with
      | some (.array len e), .pointer p =>
        match sizeT P e with
        | some s => nn p fun a => (0 ≤ i ∧ i < (len : Int)) ∧ K (.pointer (some (a.add (i.toNat * s))))
        | none => False
      | some (.slice e), .slice p len _ =>
        match sizeT P e with
        | some s => (0 ≤ i ∧ i < (len : Int)) ∧ nn p fun a => K (.pointer (some (a.add (i.toNat * s))))
        | none => False
      | _, _ => False
    | _ => False
  | .index t x ix =>
    match ρ ix with
    | .int _ i =>
      match P.underlying t, ρ x with
      | some (.array len e), .agg cs =>
        match P.underlying e, sizeT P e with
        | some (.int k), some 1 => (0 ≤ i ∧ i < (len : Int)) ∧ ∃ z : Int, cs.toList[i.toNat]? = some (.int k z) ∧ K (.int k z)
        | _, _ => False
      | some .string, .string s => 0 ≤ i ∧ ∃ b : UInt8, s[i.toNat]? = some b ∧ K (.int .u8 (b.toNat : Int))
      | _, _ => False
    | _ => False
  | .slice t x lo hi mx =>
    match P.underlying t, ρ x with
    | some (.slice e), .slice p len cap =>
      match sizeT P e with
      | some s => sbounds len cap (lo.map ρ) (hi.map ρ) (mx.map ρ) fun l h m => K (.slice (cutAt p m l s) (h - l) (m - l))
      | none => False
    | some (.array n e), .pointer p =>
      match sizeT P e with
      | some s => nn p fun a => sbounds n n (lo.map ρ) (hi.map ρ) (mx.map ρ) fun l h m => K (.slice (cutAt (some a) m l s) (h - l) (m - l))
      | none => False
    | some .string, .string s =>
      match mx with
      | none => sbounds s.size s.size (lo.map ρ) (hi.map ρ) none fun l h _ => K (.string (s.extract l h))
      | some _ => False
    | _, _ => False
  | .extract t ix =>
    match ρ t with
    | .tuple vs => (match vs.toList[ix]? with
      | some v => K v
      | none => False)
    | _ => False
  | .makeFunc fn first cap => K (.func fn (first.map ρ) (cap.map ρ))
  | .build t parts =>
    match P.info? t with
    | some i =>
      match i.zero with
      | some z =>
        match P.underlying t with
        | some (.struct _) =>
          match places P t with
          | some pl => (match Instr.fill (pl[·]?) z.cells (parts.map fun (i, x) => (i, ρ x)).toList with
            | some cs => K (.agg cs)
            | none => False)
          | none => False
        | some (.array _ e) =>
          match sizeT P e with
          | some s => (match Instr.fill (fun i => some (i * s, s)) z.cells (parts.map fun (i, x) => (i, ρ x)).toList with
            | some cs => K (.agg cs)
            | none => False)
          | none => False
        | _ => False
      | none => False
    | none => False
  | .sliceToArrayPointer arr x =>
    match P.underlying arr, ρ x with
    | some (.array n _), .slice p len _ => n ≤ len ∧ K (.pointer p)
    | _, _ => False
  | .call c =>
    match c.callee, c.argTypes[0]?, c.args.toList with
    | .builtin .len, some t, [x] =>
      match P.underlying t, ρ x with
      | some .string, .string s => K (.int .i64 (s.size : Int))
      | some (.slice _), .slice _ n _ => K (.int .i64 (n : Int))
      | some (.array n _), _ => K (.int .i64 (n : Int))
      | some (.pointer e), _ => (match P.underlying e with
        | some (.array n _) => K (.int .i64 (n : Int))
        | _ => False)
      | _, _ => False
    | .builtin .cap, some t, [x] =>
      match P.underlying t, ρ x with
      | some (.slice _), .slice _ _ n => K (.int .i64 (n : Int))
      | _, _ => False
    | .builtin .min, some _, [x, y] =>
      match ρ x, ρ y with
      | .int k a, .int _ b => K (.int k (if b < a then b else a))
      | _, _ => False
    | .builtin .max, some _, [x, y] =>
      match ρ x, ρ y with
      | .int k a, .int _ b => K (.int k (if a < b then b else a))
      | _, _ => False
    | _, _, _ => False
  | _ => False

/-! READINGS of memory that may stand anywhere in a region -/

def keyEq : Value → Value → Bool
  | .int _ a, .int _ b => a == b
  | .string a, .string b => a == b
  | .agg a, .agg b => eqInts a.toList b.toList
  | _, _ => false
def keyFit (P : Program) (kt : TypeId) (v : Value) : Bool :=
  match P.underlying kt, v with
  | some (.int k), .int j _ => k == j
  | some .string, .string _ => true
  | some (.array n e), .agg a =>
    match P.underlying e, sizeT P e with
    | some (.int k), some 1 => Nat.beq a.size n && allInt k a.toList
    | _, _ => false
  | _, _ => false
def fI (key : Value) : List MapEntry → Nat → Option (Nat × MapEntry)
  | [], _ => none
  | e :: es, i => bif keyEq key e.key then some (i, e) else fI key es (i + 1)
/-- the entries of a map -/
def mapEs (w : World) : Option Nat → List MapEntry → Prop
  | none, es => es = []
  | some b, es => ∃ arr clock, w.heap[b]? = some (.map arr clock) ∧ arr.toList = es
def zeroT (P : Program) (t : TypeId) : Option Value := (P.info? t).bind (·.zero)
/-- what m[key] is, and whether it is there -/
def mgetIs (P : Program) (kt et : TypeId) (w : World) (r : Option Nat) (key v : Value) (ok : Bool) : Prop :=
  ∃ es, mapEs w r es ∧ keyFit P kt key = true ∧ (∀ e ∈ es, keyFit P kt e.key = true) ∧
    match fI key es 0 with
    | some (_, e) => v = e.val ∧ ok = true
    | none => zeroT P et = some v ∧ ok = false
def mlenIs (w : World) (r : Option Nat) (n : Nat) : Prop := ∃ es, mapEs w r es ∧ es.length = n
/-- the entry at which an iterator stands -/
def entryIs (w : World) (it : Option Addr) (k v : Value) : Prop :=
  ∃ r s m since seen clock es e, it = some ⟨r, 0, s⟩ ∧ w.heap[r]? = some (.mapIter (some m) since seen clock) ∧ seen.back? = some e.born ∧
    w.heap[m]? = some (.map es clock) ∧ es.find? (·.born == e.born) = some e ∧ k = e.key ∧ v = e.val
/-- the bytes of a slice as a string -/
def strIs (w : World) (x : Sl) (s : ByteArray) : Prop :=
  match x.p with
  | none => s = .empty
  | some a => s.data.toList.length = x.len ∧ atC w a 0 (s.data.toList.map fun b => .int .u8 (b.toNat : Int))

/-- the type that a part of a tuple is taken at, in a region -/
def extTy (i : Nat) (d : Option Nat) : List Oper → Option TypeId
  | [] => none
  | o :: r =>
    match o.op, d with
    | .extract (.tmp t) j, some d => bif Nat.beq t d && Nat.beq i j then some o.type else extTy i (some d) r
    | _, d => extTy i d r
/-- a typed value where the type is known -/
def dcO (P : Program) (t : Option TypeId) (F : Value → Prop) : Prop :=
  match t with
  | some t => dcV P t F
  | none => ∃ v, F v
def readDn (P : Program) (ops : List Oper) (o : Oper) (ρ : Operand → Value) (w : World) (K : Value → (World → Prop) → Prop) : Prop :=
  match o.op with
  | .load t a =>
    match ρ a with
    | .pointer p => nn p fun p => ldT P t w p fun vs => K (mkV (isAggT P t) vs) fun w' => atC w' p 0 vs
    | _ => False
  | .lookup t m key ok =>
    match P.underlying t, ρ m with
    | some (.map kt et), .map r =>
      dcV P et fun v => ∃ b, mgetIs P kt et w r (ρ key) v b ∧ K (if ok then .tuple #[v, .bool b] else v) fun w' => mgetIs P kt et w' r (ρ key) v b
    | _, _ => False
  | .entry it =>
    match ρ it with
    | .pointer p => dcO P (extTy 0 o.dst ops) fun k => dcO P (extTy 1 o.dst ops) fun v => entryIs w p k v ∧ K (.tuple #[k, v]) fun w' => entryIs w' p k v
    | _ => False
  | .convert src dst x =>
    match P.underlying src, P.underlying dst, ρ x with
    | some (.slice e), some .string, .slice p n c =>
      match P.underlying e with
      | some (.int .u8) => ∃ s, strIs w ⟨p, n, c⟩ s ∧ K (.string s) fun w' => strIs w' ⟨p, n, c⟩ s
      | _ => False
    | _, _, _ => False
  | .call c =>
    match c.callee, c.argTypes[0]?, c.args.toList with
    | .builtin .len, some t, [x] =>
      match P.underlying t, ρ x with
      | some (.map _ _), .map r => ∃ n : Nat, mlenIs w r n ∧ K (.int .i64 (n : Int)) fun w' => mlenIs w' r n
      | _, _ => False
    | _, _, _ => False
  | _ => False

/-! EFFECTS -/

/-- a new block -/
def al (w : World) (o : Obj) (K : Nat → World → Prop) : Prop := K w.heap.size (w.alloc o)
def setO (w : World) (b : Nat) (o : Obj) : World := { w with heap := w.heap.setIfInBounds b o }
def drw (w : World) (n : Nat) : World := { w with drawn := n }
def scal : Value → Bool
  | .agg _ | .tuple _ => false
  | _ => true
/-- the world behind a row of stores -/
def wrs (w : World) (p : Addr) : Nat → List Value → World
  | _, [] => w
  | o, v :: vs => wrs (w.setCell (p.add o) v) p (o + 1) vs
/-- cells that may be written -/
def wrOk (w : World) (p : Addr) : Nat → List Value → Prop
  | _, [] => True
  | o, v :: vs => scal v = true ∧ (∃ u, w.cell? (p.add o) = some u) ∧ w.frozen? (p.add o) = false ∧ wrOk w p (o + 1) vs
def wr (w : World) (p : Addr) (vs : List Value) (K : World → Prop) : Prop := wrOk w p 0 vs ∧ K (wrs w p 0 vs)

def callP (P : Program) (f : FuncId) (args : Array Value) (w : World) (K : Value → World → Prop) : Prop :=
  Calls P f args w fun e w' => ∃ v, e = .returned v ∧ K v w'
/-- a function without a body here: what the model says of it -/
def extP (P : Program) (f : FuncId) (args : Array Value) (w : World) (K : Value → Prop) : Prop :=
  ∃ v, (callFunc f args).run P w = .ok (.value v) w ∧ K v
/-- a call through a function value -/
def callD (P : Program) (f : FuncId) (args : Array Value) (w : World) (K : Value → World → Prop) : Prop :=
  (∃ fn, P.funcs[f]? = some fn ∧ fn.body.isSome = true ∧ (fn.name == "runtime.NumGoroutine") = false) ∧ callP P f args w K

/-- the cells of what is appended or copied: n elements of a size -/
def srcIs (w : World) (size : Nat) (x : Value) (n : Nat) (news : List Value) : Prop :=
  match x with
  | .slice (some a) len _ => n ≤ len ∧ news.length = n * size ∧ atC w a 0 news
  | .slice none _ _ => news = [] ∧ n = 0
  | .string s => n ≤ s.size ∧ news = (s.extract 0 n).data.toList.map fun b => .int .u8 (b.toNat : Int)
  | _ => False
def lenV : Value → Nat
  | .slice _ n _ => n
  | .string s => s.size
  | _ => 0
def zerosL (z : List Value) (n : Nat) : List Value := (Builtin.zeroCells z.toArray n).toList

def appP (P : Program) (e : TypeId) (w : World) (s : Sl) (x : Value) (K : Sl → World → Prop) : Prop :=
  match sizeT P e, (P.info? e).map (·.bytes), zeroT P e with
  | some size, some bytes, some z =>
    ∃ news, srcIs w size x (lenV x) news ∧
      (s.len + lenV x ≤ s.cap → match s.p with
        | some a => wr w (a.add (s.len * size)) news fun w' => K ⟨s.p, s.len + lenV x, s.cap⟩ w'
        | none => K ⟨s.p, s.len + lenV x, s.cap⟩ w) ∧
      (s.cap < s.len + lenV x → 0 < bytes ∧ Builtin.nextslicecap (s.len + lenV x) s.cap * bytes ≤ 2 ^ 48 ∧ ∃ olds, srcIs w size s.v s.len olds ∧
        ∀ cap n, s.len + lenV x ≤ cap → al (drw w n) (.cells ((olds ++ news).toArray ++ Builtin.zeroCells z.cells (cap - (s.len + lenV x))) e) fun b w' =>
          K ⟨some ⟨b, 0, none⟩, s.len + lenV x, cap⟩ w')
  | _, _, _ => False

def copyP (P : Program) (e : TypeId) (w : World) (d : Sl) (x : Value) (K : Nat → World → Prop) : Prop :=
  match sizeT P e with
  | some size =>
    ∃ news, srcIs w size x (Nat.min (lenV x) d.len) news ∧
      match d.p with
      | some a => wr w a news fun w' => K (Nat.min (lenV x) d.len) w'
      | none => K (Nat.min (lenV x) d.len) w
  | none => False

/-- m[key] = v -/
def updE (es : Array MapEntry) (clock : Nat) (key v : Value) : Obj :=
  match fI key es.toList 0 with
  | some (i, _) => .map (es.modify i fun e => { e with key := key, val := v }) clock
  | none => .map (es.push { key := key, val := v, born := clock }) (clock + 1)
def msetP (P : Program) (kt : TypeId) (w : World) (r : Option Nat) (key v : Value) (K : World → Prop) : Prop :=
  ∃ b es clock, r = some b ∧ w.heap[b]? = some (.map es clock) ∧ keyFit P kt key = true ∧ (∀ e ∈ es.toList, keyFit P kt e.key = true) ∧
    K (setO w b (updE es clock key v))
def delE (es : Array MapEntry) (clock : Nat) (key : Value) : Obj :=
  match fI key es.toList 0 with
  | some (i, _) => .map (es.eraseIdxIfInBounds i) clock
  | none => .map es clock
def mdelP (P : Program) (kt : TypeId) (w : World) (r : Option Nat) (key : Value) (K : World → Prop) : Prop :=
  ∃ b es clock, r = some b ∧ w.heap[b]? = some (.map es clock) ∧ keyFit P kt key = true ∧ (∀ e ∈ es.toList, keyFit P kt e.key = true) ∧
    K (setO w b (delE es clock key))
/-- the iterator over a map -/
def iterOf (w : World) : Option Nat → Obj → Prop
  | none, o => o = .mapIter none 0 #[] 0
  | some m, o => ∃ es clock, w.heap[m]? = some (.map es clock) ∧ o = .mapIter (some m) clock #[] clock
def mnextP (w : World) (it : Option Addr) (Kd : World → Prop) (Ks : Value → Value → World → Prop) : Prop :=
  ∃ r s m since seen last, it = some ⟨r, 0, s⟩ ∧ w.heap[r]? = some (.mapIter m since seen last) ∧
    match m with
    | none => Kd w
    | some m => ∃ es clock, w.heap[m]? = some (.map es clock) ∧ (!seen.isEmpty && !es.isEmpty && es.all (·.born ≥ last)) = false ∧
        ((∀ e ∈ es, seen.contains e.born = false → since ≤ e.born) → ∀ n, Kd (drw w n)) ∧
        (∀ e ∈ es, seen.contains e.born = false → ∀ n, Ks e.key e.val (setO (drw w n) r (.mapIter (some m) since (seen.push e.born) clock)))

def zeroRow (z : Array Value) (n : Nat) : Array Value := (Array.range n).map (z[· % z.size]!)
def mkslP (P : Program) (e : TypeId) (w : World) (len cap : Int) (K : Sl → World → Prop) : Prop :=
  match sizeT P e, (P.info? e).map (·.bytes), zeroT P e with
  | some size, some bytes, some z =>
    (0 ≤ len ∧ len ≤ cap ∧ cap < 2 ^ 63 ∧ bytes * cap ≤ 2 ^ 48) ∧
      al w (.cells (zeroRow z.cells (cap.toNat * size)) e) fun b w' => K ⟨some ⟨b, 0, none⟩, len.toNat, cap.toNat⟩ w'
  | _, _, _ => False
/-- []byte(s) -/
def s2bP (e : TypeId) (w : World) (s : ByteArray) (K : Sl → World → Prop) : Prop :=
  ∀ cap n, s.size ≤ cap → al (drw w n) (.cells ((s.data.map fun b => .int .u8 (b.toNat : Int)) ++ Array.replicate (cap - s.size) (.int .u8 0)) e (s.size + (cap - s.size), s.size + (cap - s.size) + 1)) fun b w' =>
    K ⟨some ⟨b, 0, none⟩, s.size, cap⟩ w'

def effDn (P : Program) (o : Oper) (ρ : Operand → Value) (w : World) (K : Value → World → Prop) : Prop :=
  match o.op with
  | .alloc t =>
    match zeroT P t with
    | some z => al w (.cells z.cells t) fun b w' => K (.pointer (some ⟨b, 0, none⟩)) w'
    | none => False
  | .box t x => al w (.cells (ρ x).cells t) fun b w' => K (.pointer (some ⟨b, 0, none⟩)) w'
  | .buildSlice t len parts =>
    match P.underlying t with
    | some (.slice e) =>
      match sizeT P e, zeroT P e with
      | some size, some z =>
        if Nat.ble (len * size) (2 ^ 24) then
          (match Instr.fill (fun i => some (i * size, size)) (zeroRow (if len * size = 0 then #[] else z.cells) (len * size)) (parts.map fun (i, x) => (i, ρ x)).toList with
          | some cs => al w (.cells cs e) fun b w' => K (.slice (some ⟨b, 0, none⟩) len len) w'
          | none => False)
        else False
      | _, _ => False
    | _ => False
  | .store t a x =>
    match ρ a with
    | .pointer p => nn p fun p => if Nat.beq (ρ x).cells.size ((sizeT P t).getD 0) && (sizeT P t).isSome then wr w p (ρ x).cells.toList fun w' => K undef w' else False
    | _ => False
  | .makeMap _ none => al w (.map #[] 0) fun b w' => K (.map (some b)) w'
  | .makeSlice t l c =>
    match P.underlying t, ρ l, ρ c with
    | some (.slice e), .int _ l, .int _ c => mkslP P e w l c fun s w' => K s.v w'
    | _, _, _ => False
  | .mapUpdate t m k x | .insert t m k x =>
    match P.underlying t, ρ m with
    | some (.map kt _), .map r => msetP P kt w r (ρ k) (ρ x) fun w' => K undef w'
    | _, _ => False
  | .range t x =>
    match P.underlying t, ρ x with
    | some (.map _ _), .map r => ∃ it, iterOf w r it ∧ al w it fun b w' => K (.pointer (some ⟨b, 0, none⟩)) w'
    | _, _ => False
  | .next it false =>
    match ρ it with
    | .pointer p => mnextP w p (fun w' => K (.tuple #[.bool false]) w') (fun k v w' => K (.tuple #[.bool true, k, v]) w')
    | _ => False
  | .convert src dst x =>
    match P.underlying src, P.underlying dst, ρ x with
    | some .string, some (.slice e), .string s =>
      match P.underlying e with
      | some (.int .u8) => s2bP e w s fun s w' => K s.v w'
      | _ => False
    | _, _, _ => False
  | .call c =>
    match c.callee with
    | .value (.func f) =>
      match P.funcs[f]? with
      | some fn =>
        if fn.name == "runtime.NumGoroutine" then False else
        if fn.body.isSome then callP P f (c.args.map ρ) w fun v w' => dcR P o.type v fun v => K v w'
        else extP P f (c.args.map ρ) w fun v => dcR P o.type v fun v => K v w
      | none => False
    | .value x =>
      match ρ x with
      | .func (.func f) first cap => callD P f (first ++ c.args.map ρ ++ cap) w fun v w' => dcR P o.type v fun v => K v w'
      | _ => False
    | .builtin .append =>
      match c.argTypes.toList, c.args.toList with
      | [t, u], [s, x] =>
        match P.underlying t, P.underlying u, ρ s, ρ x with
        | some (.slice e), some (.slice _), .slice p n m, .slice q k l => appP P e w ⟨p, n, m⟩ (.slice q k l) fun s w' => K s.v w'
        | some (.slice e), some .string, .slice p n m, .string t => if (sizeT P e matches some 1) then appP P e w ⟨p, n, m⟩ (.string t) (fun s w' => K s.v w') else False
        | _, _, _, _ => False
      | _, _ => False
    | .builtin .copy =>
      match c.argTypes.toList, c.args.toList with
      | t :: _, [s, x] =>
        match P.underlying t, ρ s, ρ x with
        | some (.slice e), .slice p n m, .slice q k l => copyP P e w ⟨p, n, m⟩ (.slice q k l) fun n w' => K (.int .i64 (n : Int)) w'
        | some (.slice e), .slice p n m, .string t => if (sizeT P e matches some 1) then copyP P e w ⟨p, n, m⟩ (.string t) (fun n w' => K (.int .i64 (n : Int)) w') else False
        | _, _, _ => False
      | _, _ => False
    | .builtin .delete =>
      match c.argTypes.toList, c.args.toList with
      | t :: _, [m, k] =>
        match P.underlying t, ρ m with
        | some (.map kt _), .map r => mdelP P kt w r (ρ k) fun w' => K (.tuple #[]) w'
        | _, _ => False
      | _, _ => False
    | _ => False
  | _ => False

/-- what an operation is: 0 pure, 1 a reading, 2 an effect -/
def cls (P : Program) (o : Oper) : Nat :=
  match o.op with
  | .load _ _ | .lookup _ _ _ _ | .entry _ => 1
  | .alloc _ | .box _ _ | .buildSlice _ _ _ | .store _ _ _ | .makeMap _ _ | .makeSlice _ _ _ | .mapUpdate _ _ _ _ | .insert _ _ _ _ | .range _ _ | .next _ _ => 2
  | .convert src dst _ =>
    match P.underlying src, P.underlying dst with
    | some (.slice _), some .string => 1
    | some .string, some (.slice _) => 2
    | _, _ => 0
  | .call c =>
    match c.callee, c.argTypes[0]? with
    | .builtin .len, some t => if (P.underlying t matches some (.map _ _)) then 1 else 0
    | .builtin .cap, _ | .builtin .min, _ | .builtin .max, _ => 0
    | _, _ => 2
  | _ => 0

def opDn (P : Program) (ops : List Oper) (o : Oper) (ρ : Operand → Value) (w : World) (K : Value → World → Prop) : Prop :=
  match cls P o with
  | 0 => pureDn P o ρ fun v => K v w
  | 1 => readDn P ops o ρ w fun v _ => K v w
  | _ => effDn P o ρ w K

/-! REGIONS -/

/-- what an operation needs is there, and where its result goes -/
def okOp (nt : Nat) (ρ : Env) (o : Oper) : Bool :=
  o.op.operands.toList.all (defd ρ) && (match o.dst with
    | some d => Nat.blt d nt
    | none => true) && !(o.op matches .select _ _)
/-- a guarded operation: run, or passed over -/
def gd (ops : Array Oper) (o : Oper) (ρ : Env) (A B : Env → Prop) : Prop :=
  match o.guard with
  | none => A ρ
  | some (j, b) =>
    match (ops.toList[j]?).bind (·.dst) with
    | some d =>
      match look ρ d with
      | some (.bool true) => bif b then A ρ else B ρ
      | some (.bool false) => bif b then B ρ else A ρ
      | some (.tuple _) => B ρ
      | _ => False
    | none => False
/-- a guard's bool is parted on, unless it is known -/
def gdS (ops : Array Oper) (o : Oper) (ρ : Env) (F : Env → Prop) : Prop :=
  match o.guard with
  | none => F ρ
  | some (j, _) =>
    match (ops.toList[j]?).bind (·.dst) with
    | some d =>
      match look ρ d with
      | some (.bool t) => br t (F ((d, .bool true) :: ρ)) (F ((d, .bool false) :: ρ))
      | some (.tuple _) => F ρ
      | _ => False
    | none => False
/-- a call of a loop's yield -/
def yldOf (ρ : Operand → Value) (o : Oper) : Option (Nat × Array Value) :=
  match o.op with
  | .call c =>
    match c.callee with
    | .value x =>
      match ρ x with
      | .func (.yield l) first cap => match first.toList, cap.toList with
        | [], [] => some (l, c.args.map ρ)
        | _, _ => none
      | _ => none
    | _ => none
  | _ => none
/-- a round of a loop over a function -/
def yldP (P : Program) (l : Nat) (args : Array Value) (w : World) (K : Value → World → Prop) : Prop :=
  ∃ fn tmps assign body, (Instr.yield l args).run P w = .ok (.round l fn tmps assign body) w ∧ RoundIn Fence.wide 0 P l fn tmps assign body w fun e w' => ∃ v, e = .returned v ∧ K v w'
def seqDn (P : Program) (nt : Nat) (ops : Array Oper) : List Oper → Env → World → (Env → World → Prop) → Prop
  | [], ρ, w, K => K ρ w
  | o :: rest, ρ, w, K =>
    gdS ops o ρ fun ρ => gd ops o ρ
      (fun ρ => bif okOp nt ρ o then (match yldOf (evalO ρ) o with
        | some (l, args) => yldP P l args w fun v w' => dcR P o.type v fun v => seqDn P nt ops rest (putE o.dst v ρ) w' K
        | none => opDn P ops.toList o (evalO ρ) w fun v w' => seqDn P nt ops rest (putE o.dst v ρ) w' K) else False)
      (fun ρ => bif okOp nt ρ o then seqDn P nt ops rest (putE o.dst undef ρ) w K else False)

/-! A REGION THAT DRAWS ITS ORDER: whatever is no effect runs as early as it can; an effect runs only where nothing else could; what was read is asked anew behind each effect that is not bound to come later. -/
def predsO (o : Oper) : List Nat := o.after.toList.filterMap fun e => if Region.binds .any e then some e.on else none
def hasN (l : List Nat) (i : Nat) : Bool := l.any (Nat.beq i)
def readyO (ops : List Oper) (L : List Nat) : Nat → List Oper → List (Nat × Oper)
  | _, [] => []
  | i, o :: r => if !hasN L i && (predsO o).all (hasN L) then (i, o) :: readyO ops L (i + 1) r else readyO ops L (i + 1) r
/-- all that must come ahead of an operation -/
def reachO (ops : List Oper) : Nat → Nat → List Nat
  | 0, _ => []
  | n + 1, i => match ops[i]? with
    | some o => (predsO o) ++ (predsO o).flatMap (reachO ops n)
    | none => []
def okGuard (o : Oper) : Bool :=
  match o.guard with
  | some (j, _) => hasN (predsO o) j
  | none => true
def recheck (ops : List Oper) (e : Nat) (w : World) : List (Nat × (World → Prop)) → Prop → Prop
  | [], A => A
  | (i, R) :: F, A => if hasN (reachO ops ops.length e) i then recheck ops e w F A else R w ∧ recheck ops e w F A
def allR (r : List (Nat × Oper)) (F : Nat × Oper → Prop) : Prop :=
  match r with
  | [] => True
  | [x] => F x
  | x :: y :: r => F x ∧ allR (y :: r) F
def drawDn (P : Program) (nt : Nat) (ops : Array Oper) : Nat → List Nat → Env → World → List (Nat × (World → Prop)) → (Env → World → Prop) → Prop
  | 0, _, _, _, _, _ => False
  | n + 1, L, ρ, w, F, K =>
    match readyO ops.toList L 0 ops.toList with
    | [] => K ρ w
    | r =>
      match r.find? (fun x => !Nat.beq (cls P x.2) 2) with
      | some (i, o) =>
        bif okOp nt ρ o && okGuard o then
          gdS ops o ρ fun ρ => gd ops o ρ
            (fun ρ => if Nat.beq (cls P o) 0 then pureDn P o (evalO ρ) fun v => drawDn P nt ops n (i :: L) (putE o.dst v ρ) w F K
              else readDn P ops.toList o (evalO ρ) w fun v R => drawDn P nt ops n (i :: L) (putE o.dst v ρ) w ((i, R) :: F) K)
            (fun ρ => drawDn P nt ops n (i :: L) (putE o.dst undef ρ) w F K)
        else False
      | none =>
        allR r fun x =>
          bif okOp nt ρ x.2 && okGuard x.2 then
            gdS ops x.2 ρ fun ρ => gd ops x.2 ρ
              (fun ρ => effDn P x.2 (evalO ρ) w fun v w' => recheck ops.toList x.1 w' F (drawDn P nt ops n (x.1 :: L) (putE x.2.dst v ρ) w' F K))
              (fun ρ => drawDn P nt ops n (x.1 :: L) (putE x.2.dst undef ρ) w F K)
          else False
/-- each slot is written once, and whoever names it comes ahead of its writing or behind it -/
def apartO (ops : List Oper) : Bool :=
  let z := ops.zipIdx
  z.all fun (o, i) => match o.dst with
    | none => true
    | some d => z.all fun (u, j) => Nat.beq i j ||
        (u.dst != some d && (!((u.op.operands.toList.any fun | .tmp t => Nat.beq t d | _ => false) ||
            (match u.guard with
             | some (g, _) => (match (ops[g]?).bind (·.dst) with
               | some e => Nat.beq e d
               | none => false)
             | none => false)) ||
          hasN (reachO ops ops.length j) i || hasN (reachO ops ops.length i) j))

/-- the draw of a region's order -/
def dr (w : World) (K : World → Prop) : Prop := K (drw w (w.drawn + 1))

/-! CODE -/
abbrev Lk := List (Nat × Bool × List Kd)
@[reducible] def FnK (T : Type) : List Kd → Type
  | [] => T
  | k :: ks => KT k → FnK T ks
@[reducible] def FnE (T : Type) : Lk → Type
  | [] => T
  | (_, _, ks) :: r => FnK (FnE T r) ks
def unK : (k : Kd) → List Value → (KT k → List Value → Prop) → Prop
  | .int k, .int j x :: r, f => if j == k then f x r else False
  | .bool, .bool x :: r, f => f x r
  | .str, .string x :: r, f => f x r
  | .ptr, .pointer x :: r, f => f x r
  | .slc, .slice p n c :: r, f => f ⟨p, n, c⟩ r
  | .map, .map x :: r, f => f x r
  | .fn, .func (.func g) a b :: r, f => f ⟨g, a, b⟩ r
  | .arr k n, vs, f => ∃ d, vs.take n = cellsA k d 0 n ∧ f d (vs.drop n)
  | _, _, _ => False
def unKs {T : Type} : (ks : List Kd) → FnK T ks → List Value → (T → Prop) → Prop
  | [], t, vs, G => match vs with
    | [] => G t
    | _ => False
  | k :: ks, f, vs, G => unK k vs fun x r => unKs ks (f x) r G
def apE {T : Type} : (L : Lk) → FnE T L → Env → (T → Prop) → Prop
  | [], t, _, G => G t
  | (s, ag, ks) :: r, f, ρ, G =>
    match look ρ s with
    | some v =>
      match ag, v with
      | true, .agg cs => unKs ks f cs.toList fun g => apE r g ρ G
      | false, v => unKs ks f [v] fun g => apE r g ρ G
      | _, _ => False
    | none => False
def allK {T : Type} : (ks : List Kd) → FnK T ks → (List Value → T → Prop) → Prop
  | [], t, F => F [] t
  | k :: ks, f, F => ∀ x : KT k, allK ks (f x) fun vs t => F (cellsK k x ++ vs) t
def allE {T : Type} : (L : Lk) → FnE T L → (Env → T → Prop) → Prop
  | [], t, F => F [] t
  | (s, ag, ks) :: r, f, F => allK ks f fun vs g => allE r g fun env t => F ((s, mkV ag vs) :: env) t
def zipK {A B C : Type} (j : A → B → C) : (ks : List Kd) → FnK A ks → FnK B ks → FnK C ks
  | [], a, b => j a b
  | _ :: ks, f, g => fun x => zipK j ks (f x) (g x)
def zipE {A B : Type} : (L : Lk) → FnE A L → FnE B L → FnE (A × B) L
  | [], a, b => (a, b)
  | (_, _, ks) :: r, f, g => zipK (zipE r) ks f g

/-- a loop: an invariant over the slots that turn, and what every round lowers -/
def lpDn (L : Lk) (B : FnE (World → Prop) L → Env → World → Prop) (ρ : Env) (w : World) : Prop :=
  ∃ (I : FnE (World → Prop) L) (μ : FnE (World → Nat) L), (apE L I ρ fun i => i w) ∧
    allE L (zipE L I μ) fun env im => ∀ (w : World) (K : FnE (World → Prop) L), im.1 w →
      (allE L (zipE L (zipE L I μ) K) fun _ t => ∀ w', t.1.1 w' → t.1.2 w' < im.2 w → t.2 w') → B K env w
/-- a cut: what holds where ways meet -/
def cutDn (L : Lk) (A : FnE (World → Prop) L → Prop) (B : Env → World → Prop) : Prop :=
  ∃ J : FnE (World → Prop) L, A J ∧ allE L J fun env j => ∀ w : World, j w → B env w
/-- slots that stay as they are -/
def restr : List Nat → Env → Env
  | [], _ => []
  | s :: C, ρ => match look ρ s with
    | some v => (s, v) :: restr C ρ
    | none => restr C ρ
def noWO (l : List Oper) (s : Nat) : Bool := l.all fun o => match o.dst with
  | some d => !Nat.beq d s
  | none => true
def noW : Code → Nat → Bool
  | .region _ ops _, s => noWO ops.toList s
  | .seq a b, s => noW a s && noW b s
  | .cond _ a b, s => noW a s && noW b s
  | .block _ c, s => noW c s
  | .loop c, s => noW c s
  | .scope c, s => noW c s
  | .rangeFunc _ _ _ _, _ => false
  | _, _ => true

structure An where
  loops : List (Nat × Lk × List Nat)
  cuts : List (Nat × Lk × List Nat)
  rounds : List (Nat × Lk × List Nat)
def lookL : List (Nat × Lk × List Nat) → Nat → Option (Lk × List Nat)
  | [], _ => none
  | (s, v) :: r, t => bif Nat.beq s t then some v else lookL r t
/-- the number of the first region -/
def fstR : Code → Option Nat
  | .region id _ _ => some id
  | .seq a b => match fstR a with
    | some i => some i
    | none => fstR b
  | .cond _ a b => match fstR a with
    | some i => some i
    | none => fstR b
  | .block _ c => fstR c
  | .loop c => fstR c
  | .scope c => fstR c
  | _ => none

/-- the loops that stand ahead of the first region -/
def lead : Code → Nat
  | .seq a b => match fstR a with
    | some _ => lead a
    | none => lead b
  | .cond _ a b => match fstR a with
    | some _ => lead a
    | none => lead b
  | .block _ c => lead c
  | .loop c => lead c + 1
  | .scope c => lead c
  | _ => 0
def keyL (c : Code) : Option Nat :=
  match fstR c with
  | some i => some (i + 10000 * lead c)
  | none => none
/-! LOOPS OVER FUNCTIONS -/
/-- from w to w' one block alone may have turned -/
structure Sole (b : Nat) (w w' : World) : Prop where
  os : w'.os = w.os
  tape : w'.tape = w.tape
  output : w'.output = w.output
  size : w'.heap.size = w.heap.size
  keep : ∀ i, i ≠ b → w'.heap[i]? = w.heap[i]?
def lpRec (R : Loop) (j : LoopState) (pe : Option Code) : Obj := .loop { R with state := j, pending := pe }
/-- how a round was left: on, or by a jump -/
def lpEnd (R : Loop) (b : Nat) (j : Option Code) (w : World) : Prop := w.heap[b]? = some (lpRec R (if j.isNone then .ready else .done) j)
/-- the begin of a round -/
def lpBegin (R : Loop) (b : Nat) (w : World) (K : World → Prop) : Prop := lpEnd R b none w ∧ ∀ w', Sole b w w' → w'.heap[b]? = some (lpRec R .busy none) → K w'
/-- the end of a round -/
def lpClose (R : Loop) (b : Nat) (j : Option Code) (w : World) (K : World → Prop) : Prop := w.heap[b]? = some (lpRec R .busy none) ∧ ∀ w', Sole b w w' → lpEnd R b j w' → K w'
def allVK : List Kd → (List Value → Prop) → Prop
  | [], F => F []
  | k :: ks, F => ∀ x : KT k, allVK ks fun vs => F (cellsK k x ++ vs)
/-- whatever typed values are yielded -/
def allV : Lk → (Env → Prop) → Prop
  | [], F => F []
  | (s, ag, ks) :: r, F => allVK ks fun vs => allV r fun env => F ((s, mkV ag vs) :: env)
def pushE : Env → Env → Env
  | [], ρ => ρ
  | x :: r, ρ => pushE r (x :: ρ)
def valsE : Env → List Value
  | [] => []
  | (_, v) :: r => v :: valsE r
/-- the exits that leave a code -/
def escs : List Nat → Code → List Nat
  | bs, .seq a b => escs bs a ++ escs bs b
  | bs, .cond _ a b => escs bs a ++ escs bs b
  | bs, .block id c => escs (id :: bs) c
  | bs, .loop c => escs bs c
  | bs, .scope c => escs bs c
  | bs, .exit i => bif hasN bs i then [] else [i]
  | _, _ => []
def hasRet : Code → Bool
  | .seq a b => hasRet a || hasRet b
  | .cond _ a b => hasRet a || hasRet b
  | .block _ c => hasRet c
  | .loop c => hasRet c
  | .scope c => hasRet c
  | .ret => true
  | _ => false
def once : List Nat → List Nat
  | [] => []
  | i :: r => bif hasN r i then once r else i :: once r
/-- the ways in which a round may end -/
def jumpsOf (body : Code) : List (Option Code) := none :: ((bif hasRet body then [some .ret] else []) ++ (once (escs [] body)).map fun i => some (.exit i))
/-- the loop was left in one of these ways -/
def rfK (R : Loop) (b : Nat) (w2 : World) (K : Option Code → World → Prop) : List (Option Code) → Prop
  | [] => False
  | [j] => lpEnd R b j w2 ∧ ∀ w3, Sole b w2 w3 → K j w3
  | j :: i :: r => (lpEnd R b j w2 ∧ ∀ w3, Sole b w2 w3 → K j w3) ∨ rfK R b w2 K (i :: r)
/-- 'for x := range g': what a round does (x, where it begins, the begin, how it ends), and what follows -/
def rfP (P : Program) (L : Lk) (w : World) (gf : FuncId) (first cap : Array Value)
    (round : Env → World → (World → (World → Prop) → Prop) → (Option Code → World → Prop) → Prop) (js : List (Option Code)) (K : Nat → Option Code → World → Prop) : Prop :=
  ∀ (R : Loop) (w1 : World), w1.os = w.os → w1.tape = w.tape → w1.output = w.output → w1.heap.size = w.heap.size + 2 → (∀ i, i < w.heap.size → w1.heap[i]? = w.heap[i]?) →
    w1.heap[w.heap.size]? = some (.deferred (some [])) → lpEnd R (w.heap.size + 1) none w1 →
    (allV L fun env => ∀ (W : World) (Ky : Value → World → Prop), lpEnd R (w.heap.size + 1) none W → round env W (lpBegin R (w.heap.size + 1)) (fun j W' => lpClose R (w.heap.size + 1) j W' fun W' => Ky (.bool j.isNone) W') → yldP P (w.heap.size + 1) (valsE env).toArray W Ky) →
    callP P gf (first ++ #[.func (.yield (w.heap.size + 1)) #[] #[]] ++ cap) w1 fun _ w2 => rfK R (w.heap.size + 1) w2 (K w.heap.size) js
/-- a code without scopes, loops over functions -/
def plainC : Code → Bool
  | .region _ _ _ => true
  | .seq a b => plainC a && plainC b
  | .cond _ a b => plainC a && plainC b
  | .block _ c => plainC c
  | .loop c => plainC c
  | .scope _ => false
  | .rangeFunc _ _ _ _ => false
  | _ => true
abbrev Qd := Exit → List Nat → Env → World → Prop

def den (P : Program) (nt : Nat) (an : An) : Code → Qd → List Nat → Env → World → Prop
  | .skip, Q, ds, ρ, w => Q .normal ds ρ w
  | .label _, Q, ds, ρ, w => Q .normal ds ρ w
  | .region _ ops false, Q, ds, ρ, w => seqDn P nt ops ops.toList ρ w fun ρ w => Q .normal ds ρ w
  | .region _ ops true, Q, ds, ρ, w => bif apartO ops.toList then dr w fun w => drawDn P nt ops (ops.size + 1) [] ρ w [] (fun ρ w => Q .normal ds ρ w) else False
  | .seq a b, Q, ds, ρ, w =>
    match (fstR b).bind (lookL an.cuts) with
    | some (L, C) => bif C.all (noW a) then cutDn L (fun J => den P nt an a (fun e ds' ρ w => match e with
        | .normal => bif ds' == ds then apE L J ρ fun j => j w else False
        | e => Q e ds' ρ w) ds ρ w) fun env w => den P nt an b Q ds (env ++ restr C ρ) w else False
    | none => den P nt an a (fun e ds ρ w => match e with
        | .normal => den P nt an b Q ds ρ w
        | e => Q e ds ρ w) ds ρ w
  | .cond c x y, Q, ds, ρ, w =>
    bif defd ρ c then (match evalO ρ c with
      | .bool t => br t (den P nt an x Q ds ρ w) (den P nt an y Q ds ρ w)
      | _ => False) else False
  | .block id c, Q, ds, ρ, w => den P nt an c (fun e ds ρ w => match e with
      | .exit i => if Nat.beq i id then Q .normal ds ρ w else Q (.exit i) ds ρ w
      | e => Q e ds ρ w) ds ρ w
  | .loop c, Q, ds, ρ, w =>
    match (keyL c).bind (lookL an.loops) with
    | some (L, C) => bif C.all (noW c) then lpDn L (fun K env w => den P nt an c (fun e ds' ρ w => match e with
        | .normal => bif ds' == ds then apE L K ρ fun k => k w else False
        | e => Q e ds' ρ w) ds (env ++ restr C ρ) w) ρ w else False
    | none => False
  | .exit id, Q, ds, ρ, w => Q (.exit id) ds ρ w
  | .ret, Q, ds, ρ, w => Q .ret ds ρ w
  | .scope c, Q, ds, ρ, w => den P nt an c (fun e ds ρ w => match e with
      | .goto _ => False
      | e => Q e ds ρ w) ds ρ w
  | .rangeFunc g ps assign body, Q, ds, ρ, w =>
    match (fstR body).bind (lookL an.rounds), evalO ρ g with
    | some (L, _), .func (.func gf) first cap =>
      bif defd ρ g && (ps.toList == L.map (·.1)) && ps.toList.all (fun p => Nat.blt p nt) && plainC assign && plainC body then
        (∃ fn, P.funcs[gf]? = some fn ∧ fn.body.isSome = true ∧ (fn.name == "runtime.NumGoroutine") = false) ∧
        rfP P L w gf first cap (fun env w bg J => den P nt an assign (fun e ds1 ρ1 w1 => match e with
            | .normal => bg w1 fun w2 => den P nt an body (fun e _ _ w3 => match e with
              | .normal => J none w3
              | .ret => J (some .ret) w3
              | .exit i => J (some (.exit i)) w3
              | _ => False) ds1 ρ1 w2
            | _ => False) [] (pushE env ρ) w)
          (jumpsOf body)
          fun D j w3 => match j with
            | none => Q .normal (D :: ds) ρ w3
            | some .ret => Q .ret (D :: ds) ρ w3
            | some (.exit i) => Q (.exit i) (D :: ds) ρ w3
            | _ => False
      else False
    | _, _ => False
  | _, _, _, _, _ => False

/-- a result's variable: the row of its cells, and whether they are one value -/
def resDn (P : Program) : List ResultVar → Env → World → (List Value → Prop) → Prop
  | [], _, _, K => K []
  | .tmp t :: r, ρ, w, K => bif defd ρ (.tmp t) then resDn P r ρ w fun vs => K (evalO ρ (.tmp t) :: vs) else False
  | .cell a t :: r, ρ, w, K =>
    match look ρ a with
    | some (.pointer p) => nn p fun p => ldT P t w p fun cs => resDn P r ρ w fun vs => K (mkV (isAggT P t) cs :: vs)
    | _ => False
def oneV : List Value → Value
  | [v] => v
  | vs => .tuple vs.toArray
def argsE : Nat → List Value → Env
  | _, [] => []
  | i, v :: r => (i, v) :: argsE (i + 1) r
/-- the marks of loops over functions are taken when a function is left -/
def endD : List Nat → World → (World → Prop) → Prop
  | [], w, K => K w
  | D :: ds, w, K => w.heap[D]? = some (.deferred (some [])) ∧ ∀ w', Sole D w w' → endD ds w' K
def denF (P : Program) (an : An) (fn : Func) (args : List Value) (w : World) (Q : Value → World → Prop) : Prop :=
  match fn.body with
  | some c => if Nat.ble args.length fn.ntmps then den P fn.ntmps an c (fun e ds ρ w => match e with
      | .normal | .ret => endD ds w fun w => resDn P fn.results.toList ρ w fun vs => Q (oneV vs) w
      | _ => False) [] (argsE 0 args) w else False
  | none => False
end Go.Proofs.YtpcgkfgppfjnlaaGreatDoor.V
namespace Go.Proofs.YtpcgkfgppfjnlaaGreatDoor.V
open Go
variable {P : Program}

theorem run_und {t : TypeId} {d : TypeDesc} (h : P.underlying t = some d) (w : World) : (underlying t).run P w = .ok d w := run_underlying h w
theorem run_inf {t : TypeId} {i : TypeInfo} (h : P.info? t = some i) (w : World) : (typeInfo t).run P w = .ok i w := by
  simp [typeInfo, h]
theorem run_siz {t : TypeId} {n : Nat} (h : sizeT P t = some n) (w : World) : (sizeOf t).run P w = .ok n w := by
  unfold sizeT at h
  cases hi : P.info? t with
  | none => simp [hi] at h
  | some i => simp [hi] at h; subst h; simp [sizeOf, run_inf hi]
theorem run_zer {t : TypeId} {z : Value} (h : zeroT P t = some z) (w : World) : (zeroValue t).run P w = .ok z w := by
  unfold zeroT at h
  cases hi : P.info? t with
  | none => simp [hi] at h
  | some i => simp [hi] at h; simp [zeroValue, run_inf hi, h]
theorem run_agg (t : TypeId) (w : World) (h : (P.underlying t).isSome) : (isAgg t).run P w = .ok (isAggT P t) w := by
  cases hu : P.underlying t with
  | none => simp [hu] at h
  | some d =>
    unfold isAggT isAgg
    simp only [Sem.run_bind, run_und hu, Result.andThen_ok, hu]
    cases d <;> rfl

/-- the value of a pure operation: whatever the world -/
def Pur (P : Program) (s : Sem Next) (v : Value) : Prop := ∀ w, s.run P w = .ok (.value v) w

theorem br_cases {t : Bool} {A B : Prop} (h : br t A B) : (t = true ∧ A) ∨ (t = false ∧ B) := by
  cases t
  · exact .inr ⟨rfl, h⟩
  · exact .inl ⟨rfl, h⟩

theorem eqGuard_int (op : BinOp) (t : TypeId) (x y : Operand) (k k' : IntKind) (a b : Int) (w : World) :
    (eqGuard op t x y (.int k a) (.int k' b)).run P w = .ok () w := by
  unfold eqGuard
  cases op <;> simp

theorem intBin_sound {op : BinOp} {t : TypeId} {x y : Operand} {k : IntKind} {a b : Int} {K : Value → Prop} (h : intBin op k a b K) :
    ∃ v, K v ∧ ∀ w, (do eqGuard op t x y (.int k a) (.int k b); Go.binOp op t (.int k a) (.int k b) : Sem Value).run P w = .ok v w := by
  cases op <;> simp only [intBin] at h <;>
    first
      | exact h.elim
      | (obtain ⟨h0, h⟩ := h; exact ⟨_, h, fun w => by simp only [Sem.run_bind, eqGuard_int, Result.andThen_ok]; simp [Go.binOp, Op.intDiv, h0]⟩)
      | exact ⟨_, h, fun w => by simp only [Sem.run_bind, eqGuard_int, Result.andThen_ok]; simp [Go.binOp, Op.intArith, Op.intCmp, Op.intBits, iand, ior, ixor, iandn]⟩


theorem run_eqItems (d : Nat) {e : TypeId} {k : IntKind} (he : P.underlying e = some (.int k)) (xs ys : Array Value) (w : World) : ∀ (n s : Nat), xs.size = s + n → ys.size = s + n →
    allInt k xs.toList = true → allInt k ys.toList = true →
    (Op.eqItems (d + 1) e 1 xs ys (List.range' s n)).run P w = .ok (eqInts (xs.toList.drop s) (ys.toList.drop s)) w := by
  have hall : ∀ (l : List Value) (i : Nat), allInt k l = true → (h : i < l.length) → ∃ z, l[i] = .int k z := by
    intro l
    induction l with
    | nil => intro i _ h; simp at h
    | cons v r ih =>
      intro i hl h
      cases v <;> simp [allInt] at hl
      rename_i j z
      obtain ⟨rfl, hr⟩ := hl
      cases i with
      | zero => exact ⟨z, rfl⟩
      | succ i => simpa using ih i hr (by simpa using h)
  intro n
  induction n with
  | zero =>
    intro s hx hy _ _
    have h1 : xs.toList.drop s = [] := List.drop_eq_nil_of_le (by simp [hx])
    have h2 : ys.toList.drop s = [] := List.drop_eq_nil_of_le (by simp [hy])
    simp [Op.eqItems, h1, h2, eqInts]
  | succ n ih =>
    intro s hx hy ax ay
    have hsx : s < xs.toList.length := by simp; omega
    have hsy : s < ys.toList.length := by simp; omega
    obtain ⟨zx, ex⟩ := hall _ s ax hsx
    obtain ⟨zy, ey⟩ := hall _ s ay hsy
    have ex' : xs[s]? = some (.int k zx) := by
      rw [← Array.getElem?_toList, List.getElem?_eq_getElem hsx, ex]
    have ey' : ys[s]? = some (.int k zy) := by
      rw [← Array.getElem?_toList, List.getElem?_eq_getElem hsy, ey]
    have hag : ∀ w, (isAgg e).run P w = .ok false w := fun w => by
      rw [run_agg e w (by simp [he])]; simp [isAggT, he]
    rw [List.range'_succ]
    simp only [Op.eqItems, part, Nat.mul_one, Sem.run_bind, hag, Result.andThen_ok, ex', ey']
    rw [List.drop_eq_getElem_cons hsx, List.drop_eq_getElem_cons hsy, ex, ey]
    simp only [eqInts, Op.equalIn, Sem.run_bind, run_und he, Result.andThen_ok, if_true, Bool.false_eq_true, if_false, Sem.run_pure]
    by_cases hz : zx = zy
    · subst hz
      simp only [beq_self_eq_true, Bool.not_true, Bool.false_eq_true, if_false, Bool.true_and]
      exact ih (s + 1) (by omega) (by omega) ax ay
    · have : (zx == zy) = false := by simpa using hz
      simp [this]

theorem aggEq_run {t e : TypeId} {n : Nat} {k : IntKind} (a b : Array Value) (ht : P.underlying t = some (.array n e)) (he : P.underlying e = some (.int k)) (hs : sizeT P e = some 1)
    (ha : a.size = n) (hb : b.size = n) (ia : allInt k a.toList = true) (ib : allInt k b.toList = true) (w : World) :
    (Op.equal t (.agg a) (.agg b)).run P w = .ok (eqInts a.toList b.toList) w := by
  have hi : ∃ i, P.info? e = some i := by
    cases h : P.info? e with
    | none => simp [sizeT, h] at hs
    | some i => exact ⟨i, rfl⟩
  obtain ⟨i, hi⟩ := hi
  have hc : P.cellsOf e = 1 := by
    have h1 := run_siz hs w
    rw [run_sizeOf w hi] at h1
    simpa using h1
  show (Op.equalIn (9998 + 1 + 1) t (.agg a) (.agg b)).run P w = _
  rw [run_equalIn_array w (9998 + 1) a b ht hi, hc, List.range_eq_range']
  have := run_eqItems 9998 he a b w n 0 (by omega) (by omega) ia ib
  simpa using this

theorem eqGuard_agg (op : BinOp) (t : TypeId) (x y : Operand) (a b : Array Value) (w : World) (h : P.eqGuardType P.depth t = false) :
    (eqGuard op t x y (.agg a) (.agg b)).run P w = .ok () w := by
  unfold eqGuard
  cases op <;> simp [h]
theorem eqGuard_plain {op : BinOp} {t : TypeId} {x y : Operand} {a b : Value} (h : match a, b with | .nilIface, .nilIface => False | .agg _, .agg _ => False | _, _ => True) (w : World) :
    (eqGuard op t x y a b).run P w = .ok () w := by
  unfold eqGuard
  cases op <;> cases a <;> cases b <;> simp_all

section
variable (d : Nat)
theorem eqd_bool {t : TypeId} (h : P.underlying t = some .bool) (a b : Bool) (w : World) : (Op.equalIn (d + 1) t (.bool a) (.bool b)).run P w = .ok (a == b) w := by
  simp only [Op.equalIn, Sem.run_bind, run_und h, Result.andThen_ok, Sem.run_pure]
theorem eqd_ptr {t e : TypeId} (h : P.underlying t = some (.pointer e)) (a : Option Addr) (w : World) : (Op.equalIn (d + 1) t (.pointer a) (.pointer none)).run P w = .ok a.isNone w := by
  cases a <;> simp only [Op.equalIn, Sem.run_bind, run_und h, Result.andThen_ok, Sem.run_pure] <;> rfl
theorem eqd_slc {t e : TypeId} (h : P.underlying t = some (.slice e)) (a : Option Addr) (n c n' c' : Nat) (w : World) : (Op.equalIn (d + 1) t (.slice a n c) (.slice none n' c')).run P w = .ok a.isNone w := by
  cases a <;> simp only [Op.equalIn, Sem.run_bind, run_und h, Result.andThen_ok, Sem.run_pure] <;> rfl
theorem eqd_map {t k e : TypeId} (h : P.underlying t = some (.map k e)) (a : Option Nat) (w : World) : (Op.equalIn (d + 1) t (.map a) (.map none)).run P w = .ok a.isNone w := by
  cases a <;> simp only [Op.equalIn, Sem.run_bind, run_und h, Result.andThen_ok, Sem.run_pure] <;> rfl
end
theorem eq_bool {t : TypeId} (h : P.underlying t = some .bool) (a b : Bool) (w : World) : (Op.equal t (.bool a) (.bool b)).run P w = .ok (a == b) w := eqd_bool 9999 h a b w
theorem eq_ptr {t e : TypeId} (h : P.underlying t = some (.pointer e)) (a : Option Addr) (w : World) : (Op.equal t (.pointer a) (.pointer none)).run P w = .ok a.isNone w := eqd_ptr 9999 h a w
theorem eq_slc {t e : TypeId} (h : P.underlying t = some (.slice e)) (a : Option Addr) (n c n' c' : Nat) (w : World) : (Op.equal t (.slice a n c) (.slice none n' c')).run P w = .ok a.isNone w := eqd_slc 9999 h a n c n' c' w
theorem eq_map {t k e : TypeId} (h : P.underlying t = some (.map k e)) (a : Option Nat) (w : World) : (Op.equal t (.map a) (.map none)).run P w = .ok a.isNone w := eqd_map 9999 h a w
theorem run_eql {t : TypeId} {a b : Value} {r : Bool} {w : World} (hb : Go.binOp .eql t a b = (do pure (.bool (← Op.equal t a b)))) (h : (Op.equal t a b).run P w = .ok r w) :
    (Go.binOp .eql t a b).run P w = .ok (.bool r) w := by rw [hb]; simp [h]
theorem run_neq {t : TypeId} {a b : Value} {r : Bool} {w : World} (hb : Go.binOp .neq t a b = (do pure (.bool (!(← Op.equal t a b))))) (h : (Op.equal t a b).run P w = .ok r w) :
    (Go.binOp .neq t a b).run P w = .ok (.bool (!r)) w := by rw [hb]; simp [h]
theorem binDn_sound {op : BinOp} {t : TypeId} {x y : Operand} {a b : Value} {K : Value → Prop} (h : binDn P op t a b K) :
    ∃ v, K v ∧ ∀ w, (do eqGuard op t x y a b; Go.binOp op t a b : Sem Value).run P w = .ok v w := by
  unfold binDn at h
  split at h
  · obtain ⟨h0, h⟩ := h
    have h0' : ¬ (_ : Int) < 0 := Int.not_lt.2 h0
    exact ⟨_, h, fun w => by simp only [Sem.run_bind, eqGuard_int, Result.andThen_ok]; simp [Go.binOp, Op.shift, h0', ishl]⟩
  · obtain ⟨h0, h⟩ := h
    have h0' : ¬ (_ : Int) < 0 := Int.not_lt.2 h0
    exact ⟨_, h, fun w => by simp only [Sem.run_bind, eqGuard_int, Result.andThen_ok]; simp [Go.binOp, Op.shift, h0', ishr]⟩
  · split at h
    · rename_i hk
      have hk' := eq_of_beq hk
      subst hk'
      exact intBin_sound h
    · exact h.elim
  -- bool
  · split at h
    · rename_i hu'
      simp only [if_true] at h
      exact ⟨_, h, fun w => by rw [Sem.run_bind, eqGuard_plain trivial, Result.andThen_ok]; exact run_eql rfl (eq_bool hu' _ _ w)⟩
    · simp at h
  · split at h
    · rename_i hu'
      simp only [if_true] at h
      exact ⟨_, h, fun w => by rw [Sem.run_bind, eqGuard_plain trivial, Result.andThen_ok]; exact run_neq rfl (eq_bool hu' _ _ w)⟩
    · simp at h
  · split at h
    · rename_i hu'
      simp only [if_true] at h
      exact ⟨_, h, fun w => by rw [Sem.run_bind, eqGuard_plain trivial, Result.andThen_ok]; exact run_eql rfl (eq_ptr hu' _ w)⟩
    · simp at h
  · split at h
    · rename_i hu'
      simp only [if_true] at h
      exact ⟨_, h, fun w => by rw [Sem.run_bind, eqGuard_plain trivial, Result.andThen_ok]; exact run_neq rfl (eq_ptr hu' _ w)⟩
    · simp at h
  · split at h
    · rename_i hu'
      simp only [if_true] at h
      exact ⟨_, h, fun w => by rw [Sem.run_bind, eqGuard_plain trivial, Result.andThen_ok]; exact run_eql rfl (eq_slc hu' _ _ _ _ _ w)⟩
    · simp at h
  · split at h
    · rename_i hu'
      simp only [if_true] at h
      exact ⟨_, h, fun w => by rw [Sem.run_bind, eqGuard_plain trivial, Result.andThen_ok]; exact run_neq rfl (eq_slc hu' _ _ _ _ _ w)⟩
    · simp at h
  · split at h
    · rename_i hu'
      simp only [if_true] at h
      exact ⟨_, h, fun w => by rw [Sem.run_bind, eqGuard_plain trivial, Result.andThen_ok]; exact run_eql rfl (eq_map hu' _ w)⟩
    · simp at h
  · split at h
    · rename_i hu'
      simp only [if_true] at h
      exact ⟨_, h, fun w => by rw [Sem.run_bind, eqGuard_plain trivial, Result.andThen_ok]; exact run_neq rfl (eq_map hu' _ w)⟩
    · simp at h
  -- arrays
  · unfold aggEq at h
    split at h
    · rename_i n e hu
      split at h
      · rename_i k he hs
        split at h
        · rename_i hb
          simp only [Bool.and_eq_true, Bool.not_eq_true', Nat.beq_eq] at hb
          obtain ⟨⟨⟨⟨h1, h2⟩, h3⟩, h4⟩, h5⟩ := hb
          exact ⟨_, h, fun w => by rw [Sem.run_bind, eqGuard_agg _ _ _ _ _ _ _ h5, Result.andThen_ok]; exact run_eql rfl (aggEq_run _ _ hu he hs h1 h2 h3 h4 w)⟩
        · exact h.elim
      · exact h.elim
    · exact h.elim
  · unfold aggEq at h
    split at h
    · rename_i n e hu
      split at h
      · rename_i k he hs
        split at h
        · rename_i hb
          simp only [Bool.and_eq_true, Bool.not_eq_true', Nat.beq_eq] at hb
          obtain ⟨⟨⟨⟨h1, h2⟩, h3⟩, h4⟩, h5⟩ := hb
          exact ⟨_, h, fun w => by rw [Sem.run_bind, eqGuard_agg _ _ _ _ _ _ _ h5, Result.andThen_ok]; exact run_neq rfl (aggEq_run _ _ hu he hs h1 h2 h3 h4 w)⟩
        · exact h.elim
      · exact h.elim
    · exact h.elim
  -- strings
  · exact ⟨_, h, fun w => by rw [Sem.run_bind, eqGuard_plain trivial]; simp only [Result.andThen_ok, Go.binOp, Op.stringOp, Sem.run_pure, beq_toListBytes]⟩
  · exact ⟨_, h, fun w => by rw [Sem.run_bind, eqGuard_plain trivial]; simp only [Result.andThen_ok, Go.binOp, Op.stringOp, Sem.run_pure, beq_toListBytes]⟩
  · exact h.elim

theorem sbound_sound {x : Value} {y : Nat} {K : Nat → Prop} (P : Program) (h : sbound x y K) : ∃ n, K n ∧ ∀ (c : BoundsCode) (w : World), (Instr.sliceBound x y c).run P w = .ok n w := by
  unfold sbound at h
  split at h
  · obtain ⟨h0, h⟩ := h
    exact ⟨_, h, fun c w => by simp [Instr.sliceBound, asIntOf, h0]⟩
  · exact h.elim
theorem sbounds_sound {b : Bool} {len cap : Nat} {lo hi mx : Option Value} {K : Nat → Nat → Nat → Prop} (h : sbounds len cap lo hi mx K) :
    ∃ l h m, K l h m ∧ ∀ w, (Instr.sliceBounds b len cap lo hi mx).run P w = .ok (l, h, m) w := by
  unfold sbounds at h
  split at h
  · exact ⟨_, _, _, h, fun w => by simp [Instr.sliceBounds]⟩
  · obtain ⟨l, h, r⟩ := sbound_sound P h
    exact ⟨_, _, _, h, fun w => by simp [Instr.sliceBounds, r]⟩
  · obtain ⟨l, h, r⟩ := sbound_sound P h
    exact ⟨_, _, _, h, fun w => by simp [Instr.sliceBounds, r]⟩
  · obtain ⟨l, h, r⟩ := sbound_sound P h
    obtain ⟨l2, h, r2⟩ := sbound_sound P h
    exact ⟨_, _, _, h, fun w => by simp [Instr.sliceBounds, r, r2]⟩
  · obtain ⟨l, h, r⟩ := sbound_sound P h
    obtain ⟨l2, h, r2⟩ := sbound_sound P h
    exact ⟨_, _, _, h, fun w => by simp [Instr.sliceBounds, r, r2]⟩
  · obtain ⟨l, h, r⟩ := sbound_sound P h
    obtain ⟨l2, h, r2⟩ := sbound_sound P h
    obtain ⟨l3, h, r3⟩ := sbound_sound P h
    exact ⟨_, _, _, h, fun w => by simp [Instr.sliceBounds, r, r2, r3]⟩
  · exact h.elim

theorem places_run {t : TypeId} {fs : Array Field} {pl : List (Nat × Nat)} (hu : P.underlying t = some (.struct fs)) (h : places P t = some pl) (w : World) :
    (fs.mapM fun f => (do pure (f.offset, ← sizeOf f.type) : Sem (Nat × Nat))).run P w = .ok pl.toArray w := by
  simp only [places, hu] at h
  rw [Array.mapM_eq_mapM_toList]
  have key : ∀ (l : List Field) (pl : List (Nat × Nat)), l.foldr (fun f acc => match sizeT P f.type, acc with
      | some s, some r => some ((f.offset, s) :: r)
      | _, _ => none) (some []) = some pl → (l.mapM fun f => (do pure (f.offset, ← sizeOf f.type) : Sem (Nat × Nat))).run P w = .ok pl w := by
    intro l
    induction l with
    | nil => intro pl h; simp at h; subst h; simp
    | cons f l ih =>
      intro pl h
      simp only [List.foldr_cons] at h
      split at h
      · rename_i s r hs hr
        simp at h; subst h
        rw [List.mapM_cons]
        simp only [Sem.run_bind, run_siz hs, Result.andThen_ok, Sem.run_pure, ih _ hr]
      · simp at h
  have k := key _ _ h
  simp only [Functor.map]
  rw [Sem.run_bind', k]
  rfl

theorem pure_sound {o : Oper} {ρ : Operand → Value} {K : Value → Prop} (h : pureDn P o ρ K) : ∃ v, K v ∧ Pur P (execOp ρ o) v := by
  unfold pureDn at h
  split at h
  case h_1 hop => exact ⟨_, h, fun w => by simp [execOp, hop]⟩
  case h_2 hop => exact ⟨_, h, fun w => by simp [execOp, hop]⟩
  case h_3 hop =>
    split at h
    · rename_i hc
      rcases br_cases h with ⟨rfl, h⟩ | ⟨rfl, h⟩
      · exact ⟨_, h, fun w => by simp [execOp, hop, hc, asBool]⟩
      · exact ⟨_, h, fun w => by simp [execOp, hop, hc, asBool]⟩
    · exact h.elim
  case h_4 hop =>
    split at h
    · rename_i p hc
      cases p with
      | none => exact h.elim
      | some a => exact ⟨_, h, fun w => by simp [execOp, hop, hc]⟩
    · rename_i hc
      exact ⟨_, h, fun w => by simp [execOp, hop, hc]⟩
    · exact h.elim
  case h_5 hop =>
    obtain ⟨v, hv, hr⟩ := binDn_sound h
    exact ⟨v, hv, fun w => by simp only [execOp, hop]; rw [Sem.run_bind, hr]; rfl⟩
  case h_6 hop =>
    split at h
    · rename_i hx; exact ⟨_, h, fun w => by simp [execOp, hop, hx, Op.unary, Op.intArith]⟩
    · rename_i hx; exact ⟨_, h, fun w => by simp [execOp, hop, hx, Op.unary, Op.intBits, ixor]⟩
    · rename_i hx; exact ⟨_, h, fun w => by simp [execOp, hop, hx, Op.unary]⟩
    · exact h.elim
  case h_7 hop =>
    split at h
    · rename_i hs hd hx
      exact ⟨_, h, fun w => by simp only [execOp, hop, convert, Sem.run_bind, hx, run_und hs, run_und hd, Result.andThen_ok, Conv.intToInt, Sem.run_pure]⟩
    · exact h.elim
  case h_8 hop =>
    split at h
    · rename_i fs hu
      split at h
      · rename_i fl hf
        split at h
        · rename_i hz
          split at h
          · rename_i p hx
            cases p with
            | none => exact h.elim
            | some a =>
            refine ⟨_, h, fun w => ?_⟩
            cases hs : sizeT P fl.type with
            | none => rw [hs] at hz; simp at hz
            | some n =>
              rw [hs] at hz
              have hn : n ≠ 0 := by rintro rfl; simp at hz
              simp only [execOp, hop, Instr.fieldAt, Sem.run_bind, run_und hu, Result.andThen_ok, hf, hx, Instr.sureAddr, Sem.run_pure, fieldPlace, run_siz hs]
              simp [hn]
          · exact h.elim
        · exact h.elim
      · exact h.elim
    · exact h.elim
  case h_9 hop =>
    split at h
    · rename_i fs hu
      split at h
      · rename_i fl cs hf hx
        split at h
        · rename_i hag
          split at h
          · rename_i n hs
            refine ⟨_, h, fun w => ?_⟩
            have hsome : (P.underlying fl.type).isSome := by
              unfold isAggT at hag
              cases hq : P.underlying fl.type <;> simp_all
            have hex : cs.extract fl.offset (fl.offset + n) = ((cs.toList.drop fl.offset).take n).toArray := by
              apply Array.ext'
              simp [List.extract_eq_take_drop]
            simp only [execOp, hop, Instr.field, Sem.run_bind, run_und hu, Result.andThen_ok, hf, hx, asAgg, Sem.run_pure, part, run_agg _ _ hsome, hag, if_true, run_siz hs, hex]
          · exact h.elim
        · rename_i hag
          split at h
          · rename_i d v hq hv
            refine ⟨_, h, fun w => ?_⟩
            have hag' : isAggT P fl.type = false := by simpa using hag
            have hv' : cs[fl.offset]? = some v := by rw [← Array.getElem?_toList]; exact hv
            simp only [execOp, hop, Instr.field, Sem.run_bind, run_und hu, Result.andThen_ok, hf, hx, asAgg, Sem.run_pure, part, run_agg _ _ (show (P.underlying fl.type).isSome by simp [hq]), hag', Bool.false_eq_true, if_false, hv']
          · exact h.elim
      · exact h.elim
    · exact h.elim
  case h_10 hop =>
    split at h
    · rename_i ik i hi
      split at h
      · rename_i len e p hu hx
        split at h
        · rename_i n hs
          cases p with
          | none => exact h.elim
          | some a =>
          obtain ⟨hb, h⟩ := h
          exact ⟨_, h, fun w => by simp only [execOp, hop, Instr.indexAt, asIntOf, hi, Sem.run_bind, Sem.run_pure, Result.andThen_ok, run_und hu, hx, Instr.sureAddr, hb, and_self, if_true, run_siz hs]⟩
        · exact h.elim
      · rename_i e p len cap hu hx
        split at h
        · rename_i n hs
          obtain ⟨hb, h⟩ := h
          cases p with
          | none => exact h.elim
          | some a => exact ⟨_, h, fun w => by simp only [execOp, hop, Instr.indexAt, asIntOf, hi, Sem.run_bind, Sem.run_pure, Result.andThen_ok, run_und hu, hx, hb, and_self, if_true, run_siz hs]⟩
        · exact h.elim
      · exact h.elim
    · exact h.elim
  case h_11 hop =>
    split at h
    · rename_i ik i hi
      split at h
      · rename_i len e cs hu hx
        split at h
        · rename_i k he hs
          obtain ⟨hb, z, hz, h⟩ := h
          have hag : isAggT P e = false := by simp [isAggT, he]
          have hv' : cs[i.toNat]? = some (.int k z) := by rw [← Array.getElem?_toList]; exact hz
          exact ⟨_, h, fun w => by simp only [execOp, hop, Instr.index, asIntOf, hi, Sem.run_bind, Sem.run_pure, Result.andThen_ok, run_und hu, hx, hb, and_self, if_true, run_siz hs, part, run_agg _ _ (show (P.underlying e).isSome by simp [he]), hag, Nat.mul_one, hv', Bool.false_eq_true, if_false]⟩
        · exact h.elim
      · rename_i s hu hx
        obtain ⟨hb, b, hz, h⟩ := h
        exact ⟨_, h, fun w => by simp only [execOp, hop, Instr.index, asIntOf, hi, Sem.run_bind, Sem.run_pure, Result.andThen_ok, run_und hu, hx, hb, if_true, hz]⟩
      · exact h.elim
    · exact h.elim
  case h_12 hop =>
    split at h
    · rename_i e p len cap hu hx
      split at h
      · rename_i n hs
        obtain ⟨l, hh, m, h, r⟩ := sbounds_sound (P := P) (b := true) h
        exact ⟨_, h, fun w => by simp only [execOp, hop, Instr.sliceAt, Sem.run_bind, run_und hu, Result.andThen_ok, Instr.slice, hx, r, run_siz hs, Sem.run_pure]; rfl⟩
      · exact h.elim
    · rename_i n e p hu hx
      split at h
      · rename_i sz hs
        cases p with
        | none => exact h.elim
        | some a =>
        simp only [nn] at h
        obtain ⟨l, hh, m, h, r⟩ := sbounds_sound (P := P) (b := false) h
        exact ⟨_, h, fun w => by
          simp only [execOp, hop, Instr.sliceAt, Sem.run_bind, run_und hu, Result.andThen_ok, Instr.sureAddr, hx, r, run_siz hs, Sem.run_pure, cutAt]
          split <;> rfl⟩
      · exact h.elim
    · rename_i s hu hx
      split at h
      · rename_i hm
        obtain ⟨l, hh, m, h, r⟩ := sbounds_sound (P := P) (b := false) h
        exact ⟨_, h, fun w => by simp only [execOp, hop, Instr.sliceAt, Sem.run_bind, run_und hu, Result.andThen_ok, Instr.slice, hx, Option.map_none, Option.isSome_none, Bool.false_eq_true, if_false, r, Sem.run_pure]⟩
      · exact h.elim
    · exact h.elim
  case h_13 t ix hop =>
    split at h
    · rename_i vs hx
      split at h
      · rename_i v hv
        have hv' : vs[ix]? = some v := by rw [← Array.getElem?_toList]; exact hv
        exact ⟨_, h, fun w => by simp only [execOp, hop, Instr.extract, hx, hv', Sem.run_bind, Sem.run_pure, Result.andThen_ok]⟩
      · exact h.elim
    · exact h.elim
  case h_14 hop => exact ⟨_, h, fun w => by simp only [execOp, hop, Instr.makeFunc, Sem.run_bind, Sem.run_pure, Result.andThen_ok]⟩
  case h_15 t parts hop =>
    split at h
    · rename_i i hi
      split at h
      · rename_i z hz
        have hzero : zeroT P t = some z := by simp [zeroT, hi, hz]
        split at h
        · rename_i fs hu
          split at h
          · rename_i pl hpl
            split at h
            · rename_i cs hcs
              refine ⟨_, h, fun w => ?_⟩
              simp only [execOp, hop, Instr.build, Sem.run_bind, run_zer hzero, Result.andThen_ok, run_und hu, places_run hu hpl]
              have hf : (fun x : Nat => pl.toArray[x]?) = (fun x : Nat => pl[x]?) := by funext x; simp
              simp only [hf, hcs, Sem.run_pure, Result.andThen_ok]
            · exact h.elim
          · exact h.elim
        · rename_i n e hu
          split at h
          · rename_i s hs
            split at h
            · rename_i cs hcs
              exact ⟨_, h, fun w => by simp only [execOp, hop, Instr.build, Sem.run_bind, run_zer hzero, Result.andThen_ok, run_und hu, run_siz hs, hcs, Sem.run_pure]⟩
            · exact h.elim
          · exact h.elim
        · exact h.elim
      · exact h.elim
    · exact h.elim
  case h_16 hop =>
    split at h
    · rename_i n e p len cap hu hx
      obtain ⟨hl, h⟩ := h
      have hl' : ¬ len < n := Nat.not_lt.2 hl
      exact ⟨_, h, fun w => by simp only [execOp, hop, Instr.arrayAt, Sem.run_bind, run_und hu, Result.andThen_ok, hx, hl', if_false, Sem.run_pure]⟩
    · exact h.elim
  case h_17 c hop =>
    split at h
    · rename_i t x hc ht hargs
      have ha : c.args = #[x] := by apply Array.ext'; simpa using hargs
      split at h
      · rename_i s hu hx
        exact ⟨_, h, fun w => by simp [execOp, hop, resolve, hc, ha, invoke, builtin, Builtin.len_, ht, run_und hu, hx, goInt]⟩
      · rename_i e p n cap hu hx
        exact ⟨_, h, fun w => by simp [execOp, hop, resolve, hc, ha, invoke, builtin, Builtin.len_, ht, run_und hu, hx, goInt]⟩
      · rename_i n e hu
        exact ⟨_, h, fun w => by simp [execOp, hop, resolve, hc, ha, invoke, builtin, Builtin.len_, ht, run_und hu, goInt]⟩
      · rename_i e hu
        split at h
        · rename_i n e' hu'
          exact ⟨_, h, fun w => by simp [execOp, hop, resolve, hc, ha, invoke, builtin, Builtin.len_, ht, run_und hu, run_und hu', goInt]⟩
        · exact h.elim
      · exact h.elim
    · rename_i t x hc ht hargs
      have ha : c.args = #[x] := by apply Array.ext'; simpa using hargs
      split at h
      · rename_i e p n cap hu hx
        exact ⟨_, h, fun w => by simp [execOp, hop, resolve, hc, ha, invoke, builtin, Builtin.cap_, ht, run_und hu, hx, goInt]⟩
      · exact h.elim
    · rename_i t x y hc ht hargs
      have ha : c.args = #[x, y] := by apply Array.ext'; simpa using hargs
      split at h
      · rename_i k a k' b hx hy
        exact ⟨_, h, fun w => by simp [execOp, hop, resolve, hc, ha, invoke, builtin, Builtin.min_, Builtin.min2, hx, hy]⟩
      · exact h.elim
    · rename_i t x y hc ht hargs
      have ha : c.args = #[x, y] := by apply Array.ext'; simpa using hargs
      split at h
      · rename_i k a k' b hx hy
        exact ⟨_, h, fun w => by simp [execOp, hop, resolve, hc, ha, invoke, builtin, Builtin.max_, Builtin.max2, hx, hy]⟩
      · exact h.elim
    · exact h.elim
  case h_18 => exact h.elim
end Go.Proofs.YtpcgkfgppfjnlaaGreatDoor.V
namespace Go.Proofs.YtpcgkfgppfjnlaaGreatDoor.V
open Go
variable {P : Program}

theorem cellsK_length (k : Kd) (x : KT k) : (cellsK k x).length = k.size := by
  cases k <;> simp [cellsK, Kd.size]
  rename_i k n
  have : ∀ (n i : Nat), (cellsA k x i n).length = n := by
    intro n
    induction n with
    | zero => intro i; rfl
    | succ n ih => intro i; simp [cellsA, ih]
  exact this n 0
theorem atC_append {w : World} {p : Addr} : ∀ {a b : List Value} {o : Nat}, atC w p o a → atC w p (o + a.length) b → atC w p o (a ++ b)
  | [], b, o, _, h => by simpa using h
  | v :: a, b, o, h, h2 => ⟨h.1, atC_append h.2 (by simpa [Nat.add_assoc, Nat.add_comm 1] using h2)⟩
theorem rdL_sound {w : World} {p : Addr} : ∀ {ks : List Kd} {o : Nat} {K : List Value → Prop}, rdL w p o ks K → ∃ vs, K vs ∧ atC w p o vs ∧ vs.length = sizeK ks
  | [], _, _, h => ⟨[], h, trivial, rfl⟩
  | k :: ks, o, K, h => by
    obtain ⟨x, hx, h⟩ := h
    obtain ⟨vs, hK, ha, hl⟩ := rdL_sound h
    refine ⟨_, hK, atC_append hx ?_, ?_⟩
    · rw [cellsK_length]; exact ha
    · simp [cellsK_length, hl, sizeK]
theorem run_load {w : World} {a : Addr} {v : Value} (h : w.cell? a = some v) : (Go.load a).run P w = .ok v w := by
  simp [Go.load, Sem.run, h]
theorem run_loadCellsFrom {w : World} {p : Addr} : ∀ (vs : List Value) (o : Nat) (acc : Array Value), atC w p o vs → (loadCellsFrom p o vs.length acc).run P w = .ok (acc ++ vs.toArray) w
  | [], o, acc, _ => by simp [loadCellsFrom]
  | v :: vs, o, acc, h => by
    simp only [List.length_cons, loadCellsFrom, Sem.run_bind, run_load h.1, Result.andThen_ok]
    rw [run_loadCellsFrom vs (o + 1) _ h.2]
    congr 1
    apply Array.ext'
    simp
theorem run_loadCells {w : World} {p : Addr} {vs : List Value} (h : atC w p 0 vs) : (loadCells p vs.length).run P w = .ok vs.toArray w := by
  simp [loadCells, run_loadCellsFrom vs 0 #[] h]

theorem kinds_some {t : TypeId} {ks : List Kd} (h : kinds P t = some ks) : (P.underlying t).isSome := by
  unfold kinds kindsF at h
  cases hu : P.underlying t with
  | none => simp [hu] at h
  | some d => rfl

/-- cells that lie at p are what a load of that type reads -/
theorem run_loadVar {t : TypeId} {w : World} {p : Addr} {vs : List Value} (hu : (P.underlying t).isSome) (hs : sizeT P t = some vs.length) (h1 : isAggT P t = true ∨ vs.length = 1) (h : atC w p 0 vs) :
    (loadVar t p).run P w = .ok (mkV (isAggT P t) vs) w := by
  simp only [loadVar, Sem.run_bind, run_agg t w hu, Result.andThen_ok]
  cases hag : isAggT P t with
  | true => simp [run_siz hs, run_loadCells h, mkV]
  | false =>
    simp [hag] at h1
    obtain ⟨v, rfl⟩ := List.length_eq_one_iff.1 h1
    have := h.1
    simp [Addr.add] at this
    simp [run_load this, mkV]
theorem ldT_sound {t : TypeId} {w : World} {p : Addr} {K : List Value → Prop} (h : ldT P t w p K) :
    ∃ vs, K vs ∧ atC w p 0 vs ∧ ∀ w', atC w' p 0 vs → (loadVar t p).run P w' = .ok (mkV (isAggT P t) vs) w' := by
  unfold ldT at h
  split at h
  · rename_i ks hk
    cases hs : sizeT P t with
    | none => simp [hs] at h
    | some n =>
      simp only [hs] at h
      split at h
      · rename_i hb
        simp only [Bool.and_eq_true, Bool.or_eq_true, Nat.beq_eq] at hb
        obtain ⟨hb1, hb2⟩ := hb
        obtain ⟨vs, hK, ha, hl⟩ := rdL_sound h
        exact ⟨vs, hK, ha, fun w' ha' => run_loadVar (kinds_some hk) (by rw [hs, hl, hb1]) (hb2.imp id fun h => by rw [hl, h]) ha'⟩
      · exact h.elim
  · exact h.elim

/-! maps -/
theorem allInt_get {k : IntKind} : ∀ (l : List Value) (i : Nat), allInt k l = true → i < l.length → ∃ z, l[i]? = some (.int k z)
  | [], i, _, h => by simp at h
  | v :: r, i, hl, h => by
    cases v <;> simp [allInt] at hl
    rename_i j z
    obtain ⟨rfl, hr⟩ := hl
    cases i with
    | zero => exact ⟨z, rfl⟩
    | succ i => simpa using allInt_get r i hr (by simpa using h)
theorem part_int {e : TypeId} {k : IntKind} {z : Int} (he : P.underlying e = some (.int k)) {cs : Array Value} {i : Nat} (h : cs.toList[i]? = some (.int k z)) (w : World) :
    (part e cs i).run P w = .ok (.int k z) w := by
  have hag : isAggT P e = false := by simp [isAggT, he]
  have h' : cs[i]? = some (.int k z) := by rw [← Array.getElem?_toList]; exact h
  simp [part, run_agg e w (show (P.underlying e).isSome by simp [he]), hag, h']

theorem run_forIn_unit {w : World} {f : Nat → PUnit → Sem (ForInStep PUnit)} : ∀ (l : List Nat), (∀ i ∈ l, (f i ⟨⟩).run P w = .ok (.yield ⟨⟩) w) → (forIn l PUnit.unit f).run P w = .ok ⟨⟩ w
  | [], _ => by simp
  | i :: l, h => by
    rw [List.forIn_cons]
    simp only [Sem.run_bind, h i (by simp), Result.andThen_ok]
    exact run_forIn_unit l fun j hj => h j (by simp [hj])
theorem check_arr {e kt : TypeId} {n : Nat} {k : IntKind} (em : Bool) (d : Nat) (hu : P.underlying kt = some (.array n e)) (he : P.underlying e = some (.int k)) (hs : sizeT P e = some 1)
    {a : Array Value} (hn : a.size = n) (ia : allInt k a.toList = true) (w : World) : (Instr.checkKey em (d + 2) kt (.agg a)).run P w = .ok () w := by
  rw [Instr.checkKey]
  simp only [Sem.run_bind, run_und hu, Result.andThen_ok]
  simp only [Std.Legacy.Range.forIn_eq_forIn_range', Std.Legacy.Range.size, Nat.sub_zero, Nat.add_one_sub_one, Nat.div_one]
  have hf := run_forIn_unit (P := P) (w := w) (f := fun i _ => (do
      let a ← part e a (i * (← sizeOf e))
      Instr.checkKey em (d + 1) e a
      pure (ForInStep.yield PUnit.unit) : Sem (ForInStep PUnit))) (List.range' 0 n) ?_
  · rw [hf]; rfl
  · intro i hi
    obtain ⟨z, hz⟩ := allInt_get a.toList i ia (by simp at hi ⊢; omega)
    have hc : (Instr.checkKey em (d + 1) e (.int k z)).run P w = .ok () w := by
      rw [Instr.checkKey]
      simp only [Sem.run_bind, run_und he, Result.andThen_ok, Sem.run_pure]
    simp only [Sem.run_bind, run_siz hs, Result.andThen_ok, Nat.mul_one, part_int he hz, hc, Sem.run_pure]

/-- a key that fits its type -/
theorem keyFit_cases {kt : TypeId} {v : Value} (h : keyFit P kt v = true) :
    (∃ k z, P.underlying kt = some (.int k) ∧ v = .int k z) ∨ (∃ s, P.underlying kt = some .string ∧ v = .string s) ∨
    (∃ n e k a, P.underlying kt = some (.array n e) ∧ P.underlying e = some (.int k) ∧ sizeT P e = some 1 ∧ v = .agg a ∧ a.size = n ∧ allInt k a.toList = true) := by
  unfold keyFit at h
  split at h
  · rename_i k j z hu
    obtain rfl := eq_of_beq h
    exact .inl ⟨_, z, hu, rfl⟩
  · rename_i s hu
    exact .inr (.inl ⟨s, hu, rfl⟩)
  · rename_i n e a hu
    split at h
    · rename_i k he hs
      simp only [Bool.and_eq_true, Nat.beq_eq] at h
      exact .inr (.inr ⟨n, e, k, a, hu, he, hs, rfl, h.1, h.2⟩)
    · simp at h
  · simp at h

theorem check_fit {kt : TypeId} {v : Value} (em : Bool) (h : keyFit P kt v = true) (w : World) : (Instr.checkKey em 10000 kt v).run P w = .ok () w := by
  rcases keyFit_cases h with ⟨k, z, hu, rfl⟩ | ⟨s, hu, rfl⟩ | ⟨n, e, k, a, hu, he, hs, rfl, hn, ia⟩
  · have : ∀ d, (Instr.checkKey em (d + 1) kt (.int k z)).run P w = .ok () w := fun d => by
      rw [Instr.checkKey]
      simp only [Sem.run_bind, run_und hu, Result.andThen_ok, Sem.run_pure]
    exact this 9999
  · have : ∀ d, (Instr.checkKey em (d + 1) kt (.string s)).run P w = .ok () w := fun d => by
      rw [Instr.checkKey]
      simp only [Sem.run_bind, run_und hu, Result.andThen_ok, Sem.run_pure]
    exact this 9999
  · exact check_arr em 9998 hu he hs hn ia w

theorem equal_fit {kt : TypeId} {a b : Value} (ha : keyFit P kt a = true) (hb : keyFit P kt b = true) (w : World) : (Op.equal kt a b).run P w = .ok (keyEq a b) w := by
  rcases keyFit_cases ha with ⟨k, z, hu, rfl⟩ | ⟨s, hu, rfl⟩ | ⟨n, e, k, x, hu, he, hs, rfl, hn, ia⟩ <;>
    rcases keyFit_cases hb with ⟨k', z', hu', rfl⟩ | ⟨s', hu', rfl⟩ | ⟨n', e', k', x', hu', he', hs', rfl, hn', ia'⟩ <;>
    rw [hu] at hu' <;> simp at hu'
  · subst hu'
    have : ∀ d, (Op.equalIn (d + 1) kt (.int k z) (.int k z')).run P w = .ok (z == z') w := fun d => by
      simp only [Op.equalIn, Sem.run_bind, run_und hu, Result.andThen_ok, Sem.run_pure, if_true]
    exact this 9999
  · have : ∀ d, (Op.equalIn (d + 1) kt (.string s) (.string s')).run P w = .ok (s == s') w := fun d => by
      simp only [Op.equalIn, Sem.run_bind, run_und hu, Result.andThen_ok, Sem.run_pure]
    exact this 9999
  · obtain ⟨rfl, rfl⟩ := hu'
    rw [he] at he'
    simp at he'
    subst he'
    exact aggEq_run _ _ hu he hs hn hn' ia ia' w

theorem findAsk_fit {kt : TypeId} {key : Value} (hk : keyFit P kt key = true) (w : World) : ∀ (es : List MapEntry) (i : Nat), (∀ e ∈ es, keyFit P kt e.key = true) →
    (Instr.findAsking kt key es i).run P w = .ok ((fI key es i).map fun x => (x.1, x.2.val)) w
  | [], _, _ => by simp [Instr.findAsking, fI]
  | e :: es, i, h => by
    rw [Instr.findAsking]
    simp only [Sem.run_bind, equal_fit hk (h e (by simp)), Result.andThen_ok, fI]
    cases hq : keyEq key e.key
    · simp only [Bool.false_eq_true, if_false, cond_false]
      exact findAsk_fit hk w es (i + 1) fun e he => h e (by simp [he])
    · simp
theorem findNow_fit {kt : TypeId} {d : TypeDesc} (hd : P.underlying kt = some d) {key : Value} (hk : keyFit P kt key = true) : ∀ (es : List MapEntry) (i : Nat), (∀ e ∈ es, keyFit P kt e.key = true) →
    Instr.findNow d key es i = some ((fI key es i).map fun x => (x.1, x.2.val)) ∨ Instr.findNow d key es i = none
  | [], _, _ => .inl (by simp [Instr.findNow, fI])
  | e :: es, i, h => by
    have he := h e (by simp)
    have ih := findNow_fit hd hk es (i + 1) fun e he => h e (by simp [he])
    rw [Instr.findNow]
    rcases keyFit_cases hk with ⟨k, z, hu, rfl⟩ | ⟨s, hu, rfl⟩ | ⟨n, e1, k, x, hu, he1, hs, rfl, hn, ia⟩ <;>
      rcases keyFit_cases he with ⟨k', z', hu', hv⟩ | ⟨s', hu', hv⟩ | ⟨n', e', k', x', hu', he', hs', hv, hn', ia'⟩ <;>
      rw [hd] at hu hu' <;> rw [hu] at hu' <;> simp at hu' <;> simp at hu <;> subst hu <;> rw [hv]
    · subst hu'
      simp only [Instr.sameNow, if_true, fI, hv, keyEq]
      cases hq : (z == z')
      · simpa using ih
      · simp
    · simp only [Instr.sameNow, fI, hv, keyEq]
      cases hq : (s == s')
      · simpa using ih
      · simp
    · exact .inr rfl
theorem findKey_fit {kt : TypeId} {key : Value} (hk : keyFit P kt key = true) {es : List MapEntry} (h : ∀ e ∈ es, keyFit P kt e.key = true) (w : World) :
    (Instr.findKey kt key es).run P w = .ok ((fI key es 0).map fun x => (x.1, x.2.val)) w := by
  have hd : ∃ d, P.underlying kt = some d := by
    rcases keyFit_cases hk with ⟨k, z, hu, rfl⟩ | ⟨s, hu, rfl⟩ | ⟨n, e, k, x, hu, he, hs, rfl, hn, ia⟩ <;> exact ⟨_, hu⟩
  obtain ⟨d, hd⟩ := hd
  simp only [Instr.findKey, Sem.run_bind, run_und hd, Result.andThen_ok]
  rcases findNow_fit hd hk es 0 h with h1 | h1 <;> rw [h1]
  · rfl
  · exact findAsk_fit hk w es 0 h
end Go.Proofs.YtpcgkfgppfjnlaaGreatDoor.V
namespace Go.Proofs.YtpcgkfgppfjnlaaGreatDoor.V
open Go
variable {P : Program}

theorem dcN_sound : ∀ {ks : List Kd} {F : List Value → Prop}, dcN ks F → ∃ vs, F vs
  | [], _, h => ⟨[], h⟩
  | _ :: _, _, ⟨_, h⟩ => let ⟨_, h⟩ := dcN_sound h; ⟨_, h⟩
theorem dcV_sound {t : TypeId} {F : Value → Prop} (h : dcV P t F) : ∃ v, F v := by
  unfold dcV at h
  split at h
  · split at h
    · obtain ⟨vs, h⟩ := dcN_sound h; exact ⟨_, h⟩
    · exact h.elim
  · exact h.elim
theorem dcTup_sound : ∀ {ts : List TypeId} {F : List Value → Prop}, dcTup P ts F → ∃ vs, F vs
  | [], _, h => ⟨[], h⟩
  | _ :: _, _, h => let ⟨_, h⟩ := dcV_sound h; let ⟨_, h⟩ := dcTup_sound h; ⟨_, h⟩
theorem dcR_sound {t : TypeId} {v : Value} {K : Value → Prop} (h : dcR P t v K) : K v := by
  unfold dcR at h
  split at h
  · obtain ⟨vs, hv, hk⟩ := dcTup_sound h; rw [hv]; exact hk
  · obtain ⟨u, hv, hk⟩ := dcV_sound h; rw [hv]; exact hk

theorem run_getObj {w : World} {r : Nat} {o : Obj} (h : w.heap[r]? = some o) (hc : ∀ c t f, o ≠ .cells c t f) : (getObj r).run P w = .ok o w := by
  cases o <;> first | exact (hc _ _ _ rfl).elim | simp [getObj, Sem.run, h]
theorem run_setObj {w : World} {r : Nat} {o o' : Obj} (h : w.heap[r]? = some o) (hc : ∀ c t f, o ≠ .cells c t f) : (Go.setObj r o').run P w = .ok () (setO w r o') := by
  cases o <;> first | exact (hc _ _ _ rfl).elim | simp [Go.setObj, Sem.run, h, setO]
theorem run_newObj {w : World} {o : Obj} : (newObj o).run P w = .ok w.heap.size (w.alloc o) := rfl
theorem run_chooseF {w : World} {q : Question} (h : q.forced = true) : (choose q).run P w = .ok 0 w := by simp [choose, Sem.run, h]
theorem run_chooseD {w : World} {q : Question} (h : q.forced = false) : (choose q).run P w = .ok (q.cut (w.tape w.drawn q)) (drw w (w.drawn + 1)) := by simp [choose, Sem.run, h, drw]

theorem mget_run {t kt et : TypeId} {w : World} {r : Option Nat} {key v : Value} {b ok : Bool} (ht : P.underlying t = some (.map kt et)) (h : mgetIs P kt et w r key v b) :
    (Instr.lookup t (.map r) key ok).run P w = .ok (if ok then .tuple #[v, .bool b] else v) w := by
  obtain ⟨es, hes, hk, hf, hm⟩ := h
  unfold Instr.lookup
  simp only [Sem.run_bind, run_und ht, Result.andThen_ok]
  cases r with
  | none =>
    simp only [mapEs] at hes
    subst hes
    simp only [Sem.run_bind, Sem.run_pure, Result.andThen_ok, check_fit _ hk, findKey_fit hk hf, fI, Option.map_none]
    simp only [fI] at hm
    obtain ⟨hz, rfl⟩ := hm
    simp [run_zer hz]
  | some r =>
    obtain ⟨arr, clock, hr, rfl⟩ := hes
    simp only [Sem.run_bind, run_getObj hr (by simp), Sem.run_pure, Result.andThen_ok, check_fit _ hk, findKey_fit hk hf]
    cases hfi : fI key arr.toList 0 with
    | none =>
      rw [hfi] at hm
      obtain ⟨hz, rfl⟩ := hm
      simp [run_zer hz]
    | some x =>
      obtain ⟨i, e⟩ := x
      rw [hfi] at hm
      obtain ⟨rfl, rfl⟩ := hm
      simp
theorem entry_run {w : World} {it : Option Addr} {k v : Value} (h : entryIs w it k v) : (Instr.entry (.pointer it)).run P w = .ok (.tuple #[k, v]) w := by
  obtain ⟨r, s, m, since, seen, clock, es, e, rfl, hr, hb, hm, hf, rfl, rfl⟩ := h
  unfold Instr.entry
  simp only [Sem.run_bind, run_getObj hr (by simp), Result.andThen_ok, hb, run_getObj hm (by simp), hf]
  simp
theorem str_run {w : World} {x : Sl} {s : ByteArray} (h : strIs w x s) : (Conv.bytesToString (.slice x.p x.len x.cap)).run P w = .ok (.string s) w := by
  unfold strIs at h
  cases hp : x.p with
  | none => rw [hp] at h; simp only at h; subst h; simp [Conv.bytesToString]
  | some a =>
    rw [hp] at h
    obtain ⟨hl, ha⟩ := h
    have h2 := run_loadCells (P := P) ha
    rw [List.length_map, hl] at h2
    have hmap : (s.data.toList.map fun b : UInt8 => Value.int .u8 (b.toNat : Int)) = (s.data.toList.map fun b : UInt8 => (b.toNat : Int)).map (Value.int .u8) := by simp
    rw [hmap] at h2
    rw [run_bytesToString w a x.len x.cap _ h2]
    congr 2
    have key : ∀ (l : List UInt8) (acc : ByteArray), (l.map fun b : UInt8 => (b.toNat : Int)).foldl (fun r n => r.push (UInt8.ofNat n.toNat)) acc = ⟨acc.data ++ l.toArray⟩ := by
      intro l
      induction l with
      | nil => intro acc; simp
      | cons b l ih =>
        intro acc
        simp only [List.map_cons, List.foldl_cons, ih]
        congr 1
        apply Array.ext'
        simp [ByteArray.push]
    rw [key]
    apply ByteArray.ext
    show #[] ++ s.data.toList.toArray = s.data
    simp

theorem dcO_sound {t : Option TypeId} {F : Value → Prop} (h : dcO P t F) : ∃ v, F v := by
  cases t with
  | none => exact h
  | some t => exact dcV_sound h
theorem read_sound {ops : List Oper} {o : Oper} {ρ : Operand → Value} {w : World} {K : Value → (World → Prop) → Prop} (h : readDn P ops o ρ w K) :
    ∃ v R, K v R ∧ (execOp ρ o).run P w = .ok (.value v) w ∧ ∀ w', R w' → (execOp ρ o).run P w' = .ok (.value v) w' := by
  unfold readDn at h
  split at h
  case h_1 t a hop =>
    split at h
    · rename_i p hp
      cases p with
      | none => exact h.elim
      | some p =>
      obtain ⟨vs, hK, ha, hr⟩ := ldT_sound h
      have key : ∀ w', atC w' p 0 vs → (execOp ρ o).run P w' = .ok (.value (mkV (isAggT P t) vs)) w' := fun w' hw => by
        simp only [execOp, hop, Instr.loadAt, hp, Instr.sureAddr, Sem.run_bind, Sem.run_pure, Result.andThen_ok, hr w' hw]
      exact ⟨_, _, hK, key w ha, key⟩
    · exact h.elim
  case h_2 t m key ok hop =>
    split at h
    · rename_i kt et r ht hm
      obtain ⟨v, b, hg, hK⟩ := dcV_sound h
      have kk : ∀ w', mgetIs P kt et w' r (ρ key) v b → (execOp ρ o).run P w' = .ok (.value (if ok then .tuple #[v, .bool b] else v)) w' := fun w' hw => by
        simp only [execOp, hop, Sem.run_bind, hm, mget_run ht hw, Result.andThen_ok, Sem.run_pure]
      exact ⟨_, _, hK, kk w hg, kk⟩
    · exact h.elim
  case h_3 it hop =>
    split at h
    · rename_i p hp
      obtain ⟨k, h⟩ := dcO_sound h
      obtain ⟨v, he, hK⟩ := dcO_sound h
      have kk : ∀ w', entryIs w' p k v → (execOp ρ o).run P w' = .ok (.value (.tuple #[k, v])) w' := fun w' hw => by
        simp only [execOp, hop, Sem.run_bind, hp, entry_run hw, Result.andThen_ok, Sem.run_pure]
      exact ⟨_, _, hK, kk w he, kk⟩
    · exact h.elim
  case h_4 src dst x hop =>
    split at h
    · rename_i e p n c hs hd hx
      split at h
      · rename_i he
        obtain ⟨s, hst, hK⟩ := h
        have kk : ∀ w', strIs w' ⟨p, n, c⟩ s → (execOp ρ o).run P w' = .ok (.value (.string s)) w' := fun w' hw => by
          have := str_run (P := P) hw
          simp only at this
          simp only [execOp, hop, Sem.run_bind, hx, run_convert_bytes_string w' src dst e p n c hs he hd, this, Result.andThen_ok, Sem.run_pure]
        exact ⟨_, _, hK, kk w hst, kk⟩
      · exact h.elim
    · exact h.elim
  case h_5 c hop =>
    split at h
    · rename_i t x hc ht hargs
      have ha : c.args = #[x] := by apply Array.ext'; simpa using hargs
      split at h
      · rename_i kt et r hu hx
        obtain ⟨n, hn, hK⟩ := h
        have kk : ∀ w', mlenIs w' r n → (execOp ρ o).run P w' = .ok (.value (.int .i64 (n : Int))) w' := fun w' hw => by
          obtain ⟨es, hes, hl⟩ := hw
          cases r with
          | none =>
            simp only [mapEs] at hes
            subst hes
            simp at hl
            subst hl
            simp [execOp, hop, resolve, hc, ha, invoke, builtin, Builtin.len_, ht, run_und hu, hx, goInt]
          | some r =>
            obtain ⟨arr, clock, hr, rfl⟩ := hes
            have hl' : arr.size = n := by simpa using hl
            simp [execOp, hop, resolve, hc, ha, invoke, builtin, Builtin.len_, ht, run_und hu, hx, goInt, run_getObj hr, hl']
        exact ⟨_, _, hK, kk w hn, kk⟩
      · exact h.elim
    · exact h.elim
  case h_6 => exact h.elim
end Go.Proofs.YtpcgkfgppfjnlaaGreatDoor.V
namespace Go.Proofs.YtpcgkfgppfjnlaaGreatDoor.V
open Go
variable {P : Program}

/-- what an operation comes to, as a demand on its result and the world behind it -/
def Eff (P : Program) (s : Sem Next) (w : World) (K : Value → World → Prop) : Prop :=
  match s.run P w with
  | .ok (.value v) w' => K v w'
  | .ok .skip w' => K undef w'
  | .ok (.enter f args) w' => callP P f args w' K
  | _ => False
theorem Eff.value {s : Sem Next} {w w' : World} {v : Value} {K : Value → World → Prop} (h : s.run P w = .ok (.value v) w') (hK : K v w') : Eff P s w K := by
  unfold Eff; rw [h]; exact hK
theorem Eff.skip {s : Sem Next} {w w' : World} {K : Value → World → Prop} (h : s.run P w = .ok .skip w') (hK : K undef w') : Eff P s w K := by
  unfold Eff; rw [h]; exact hK
theorem Eff.enter {s : Sem Next} {w w' : World} {f : FuncId} {args : Array Value} {K : Value → World → Prop} (h : s.run P w = .ok (.enter f args) w') (hK : callP P f args w' K) : Eff P s w K := by
  unfold Eff; rw [h]; exact hK

theorem run_store {w : World} {a : Addr} {v : Value} (hv : scal v = true) (hc : ∃ u, w.cell? a = some u) (hf : w.frozen? a = false) : (Go.store a v).run P w = .ok () (w.setCell a v) := by
  obtain ⟨u, hu⟩ := hc
  cases v <;> simp [scal] at hv <;> simp [Go.store, Sem.run, hu, hf]
theorem run_storeCells {p : Addr} : ∀ (vs : List Value) (o : Nat) (w : World), wrOk w p o vs → (storeCells p vs o).run P w = .ok () (wrs w p o vs)
  | [], o, w, _ => rfl
  | v :: vs, o, w, h => by
    obtain ⟨h1, h2, h3, h4⟩ := h
    have hc : ∀ (a b : Addr) (x u : Value), w.cell? b = some u → ∃ u', (w.setCell a x).cell? b = some u' := by
      intro a b x u hu
      simp only [World.cell?, World.setCell] at hu ⊢
      by_cases hab : a.block = b.block
      · rw [hab]
        cases hb : w.heap[b.block]? with
        | none => simp [hb] at hu
        | some ob =>
          cases ob <;> simp [hb] at hu
          rename_i c e fz
          simp [Array.getElem?_modify, hb]
          refine ⟨hu.1, ?_⟩
          cases a.spot <;> simp
          · have hlt : b.off < c.size := by
              rcases Nat.lt_or_ge b.off c.size with h | h
              · exact h
              · simp [Array.getElem?_eq_none h] at hu
            by_cases ho : a.off = b.off
            · exact ⟨x, by simp [ho, hlt]⟩
            · exact ⟨u, by simp [ho]; exact hu.2⟩
          · exact ⟨u, hu.2⟩
      · refine ⟨u, ?_⟩
        simp [Array.getElem?_modify, hab]
        exact hu
    have hfz : ∀ (a b : Addr) (x : Value), (w.setCell a x).frozen? b = w.frozen? b := by
      intro a b x
      simp only [World.frozen?, World.setCell]
      by_cases hab : a.block = b.block
      · rw [hab]
        simp [Array.getElem?_modify]
        cases hb : w.heap[b.block]? with
        | none => simp
        | some ob => cases ob <;> simp
      · simp [Array.getElem?_modify, hab]
    have h4' : wrOk (w.setCell (p.add o) v) p (o + 1) vs := by
      have : ∀ (vs : List Value) (o' : Nat), wrOk w p o' vs → wrOk (w.setCell (p.add o) v) p o' vs := by
        intro vs
        induction vs with
        | nil => intro _ _; trivial
        | cons x vs ih =>
          intro o' h
          obtain ⟨a1, ⟨u, a2⟩, a3, a4⟩ := h
          exact ⟨a1, hc _ _ _ _ a2, by rw [hfz]; exact a3, ih _ a4⟩
      exact this vs (o + 1) h4
    simp only [storeCells, Sem.run_bind, run_store h1 h2 h3, Result.andThen_ok, wrs]
    exact run_storeCells vs (o + 1) _ h4'
theorem run_storeVar {t : TypeId} {p : Addr} {v : Value} {w : World} (hs : sizeT P t = some v.cells.size) (h : wrOk w p 0 v.cells.toList) :
    (storeVar t p v).run P w = .ok () (wrs w p 0 v.cells.toList) := by
  simp [storeVar, run_siz hs, run_storeCells _ _ _ h]

def isSrc : Value → Bool
  | .slice _ _ _ => true
  | .string _ => true
  | _ => false
def isStr : Value → Bool
  | .string _ => true
  | _ => false
theorem src_len {x : Value} (h : isSrc x = true) (w : World) : (Builtin.lenOf x).run P w = .ok (lenV x) w := by
  cases x <;> simp [isSrc] at h <;> rfl
theorem src_cells {x : Value} {w w' : World} {size n : Nat} {news : List Value} (hw : ∀ a, w'.cell? a = w.cell? a) (h1 : isStr x = true → size = 1) (h : srcIs w size x n news) :
    (Builtin.firstCells size n x).run P w' = .ok news.toArray w' := by
  have hat : ∀ (p : Addr) (vs : List Value) (o : Nat), atC w p o vs → atC w' p o vs := by
    intro p vs
    induction vs with
    | nil => intro _ _; trivial
    | cons v vs ih => intro o h; exact ⟨by rw [hw]; exact h.1, ih _ h.2⟩
  cases x with
  | slice a len c =>
    cases a with
    | none =>
      obtain ⟨rfl, rfl⟩ := h
      simp [Builtin.firstCells]
    | some a =>
      obtain ⟨hn, hl, ha⟩ := h
      have := run_loadCells (P := P) (hat _ _ _ ha)
      rw [hl] at this
      simpa [Builtin.firstCells] using this
  | string s =>
    obtain ⟨hn, rfl⟩ := h
    obtain rfl := h1 rfl
    simp [Builtin.firstCells]
    apply Array.ext'
    simp
  | _ => exact h.elim

theorem run_askRoom (n : Nat) (w : World) : (askRoom n).run P w = .ok () w := by
  unfold askRoom; split <;> rfl
theorem app_sound {t u e : TypeId} {d : TypeDesc} {c : Call} {ty : TypeId} {w : World} {s : Sl} {x : Value} {K : Sl → World → Prop} (ht : P.underlying t = some (.slice e))
    (hu : P.underlying u = some d) (hd : ∀ k, d ≠ .int k) (hx : isSrc x = true) (hxs : isStr x = true → sizeT P e = some 1) (hat : c.argTypes.toList = [t, u])
    (h : appP P e w s x K) : ∃ v w', (Builtin.append_ c.argTypes ty #[s.v, x]).run P w = .ok (Sl.v v) w' ∧ K v w' := by
  unfold appP at h
  split at h
  case h_2 => exact h.elim
  rename_i size bytes z hsz hby hz
  obtain ⟨i, hi, rfl⟩ : ∃ i, P.info? e = some i ∧ i.bytes = bytes := by
    cases hi : P.info? e with
    | none => simp [hi] at hby
    | some i => exact ⟨i, rfl, by simpa [hi] using hby⟩
  obtain ⟨news, hsrc, hroom, hgrow⟩ := h
  have hat' : c.argTypes = #[t, u] := by apply Array.ext'; simpa using hat
  have h1 : isStr x = true → size = 1 := fun hq => by have := hxs hq; rw [hsz] at this; simpa using this
  have hcell : ∀ n a, (drw w n).cell? a = w.cell? a := fun _ _ => rfl
  have hlen := src_len (P := P) hx
  by_cases hr : s.len + lenV x ≤ s.cap
  · have hroom := hroom hr
    cases hp : s.p with
    | none =>
      rw [hp] at hroom
      refine ⟨_, _, ?_, hroom⟩
      simp only [Sl.v, hp, Builtin.append_, hat', List.getElem?_toArray, List.getElem?_cons_zero, List.getElem?_cons_succ, Sem.run_bind, run_und ht, Result.andThen_ok, run_siz hsz, run_und hu, Sem.run_pure,
        Bool.false_eq_true, if_false, hlen, hr, if_true, Bool.not_false, src_cells (P := P) (fun _ => rfl) h1 hsrc]
    | some a =>
      rw [hp] at hroom
      obtain ⟨hw, hK⟩ := hroom
      refine ⟨_, _, ?_, hK⟩
      simp only [Sl.v, hp, Builtin.append_, hat', List.getElem?_toArray, List.getElem?_cons_zero, List.getElem?_cons_succ, Sem.run_bind, run_und ht, Result.andThen_ok, run_siz hsz, run_und hu, Sem.run_pure,
        Bool.false_eq_true, if_false, hlen, hr, if_true, Bool.not_false, src_cells (P := P) (fun _ => rfl) h1 hsrc, run_storeCells _ _ _ hw]
  · obtain ⟨hb, hc, olds, hold, hK⟩ := hgrow (by omega)
    have hold' : ∀ n, (Builtin.firstCells size s.len (.slice s.p s.len s.cap)).run P (drw w n) = .ok olds.toArray (drw w n) := fun n => src_cells (P := P) (hcell n) (fun h => by simp [isStr] at h) (by simpa [Sl.v] using hold)
    have hnew' : ∀ n, (Builtin.firstCells size (lenV x) x).run P (drw w n) = .ok news.toArray (drw w n) := fun n => src_cells (P := P) (hcell n) h1 hsrc
    have hK' := hK ((Question.appendCap (s.len + lenV x) s.cap e).cut (w.tape w.drawn (.appendCap (s.len + lenV x) s.cap e))) (w.drawn + 1) (by simp [Question.cut])
    have hb0 : ¬ i.bytes = 0 := by omega
    have hc' : ¬ Builtin.nextslicecap (s.len + lenV x) s.cap * i.bytes > 2 ^ 48 := by omega
    refine ⟨_, _, ?_, hK'⟩
    simp only [Sl.v, Builtin.append_, hat', List.getElem?_toArray, List.getElem?_cons_zero, List.getElem?_cons_succ, Sem.run_bind, run_und ht, Result.andThen_ok, run_siz hsz, run_und hu, Sem.run_pure,
        Bool.false_eq_true, if_false, hlen, hr, Bool.not_false, if_true, run_inf hi, hb0, or_self, and_false, hc', run_chooseD (show (Question.appendCap (s.len + lenV x) s.cap e).forced = false from rfl), run_zer hz]
    simp only [run_askRoom, Result.andThen_ok, hold', hnew', newRow, Sem.run_bind, run_newObj, Sem.run_pure, List.append_toArray]

theorem copy_sound {t e : TypeId} {c : Call} {ty : TypeId} {tt : List TypeId} {w : World} {s : Sl} {x : Value} {K : Nat → World → Prop} (ht : P.underlying t = some (.slice e))
    (hx : isSrc x = true) (hxs : isStr x = true → sizeT P e = some 1) (hat : c.argTypes.toList = t :: tt)
    (h : copyP P e w s x K) : ∃ v w', (Builtin.copy_ c.argTypes ty #[s.v, x]).run P w = .ok (.int .i64 ((v : Nat) : Int)) w' ∧ K v w' := by
  unfold copyP at h
  split at h
  case h_2 => exact h.elim
  rename_i size hsz
  obtain ⟨news, hsrc, hK⟩ := h
  have hat' : c.argTypes[0]? = some t := by rw [← Array.getElem?_toList, hat]; rfl
  have h1 : isStr x = true → size = 1 := fun hq => by have := hxs hq; rw [hsz] at this; simpa using this
  have hlen := src_len (P := P) hx
  have hc := src_cells (P := P) (fun _ => rfl) h1 hsrc
  cases hp : s.p with
  | none =>
    rw [hp] at hK
    refine ⟨_, _, ?_, hK⟩
    simp only [Sl.v, hp, Builtin.copy_, hat', List.getElem?_toArray, List.getElem?_cons_zero, List.getElem?_cons_succ, Sem.run_bind, run_und ht, Result.andThen_ok, run_siz hsz, hlen, hc, Sem.run_pure, goInt]
  | some a =>
    rw [hp] at hK
    obtain ⟨hw, hK⟩ := hK
    refine ⟨_, _, ?_, hK⟩
    simp only [Sl.v, hp, Builtin.copy_, hat', List.getElem?_toArray, List.getElem?_cons_zero, List.getElem?_cons_succ, Sem.run_bind, run_und ht, Result.andThen_ok, run_siz hsz, hlen, hc, Sem.run_pure, goInt, run_storeCells _ _ _ hw]

theorem sameBits_keyEq {kt : TypeId} {a b : Value} (ha : keyFit P kt a = true) (hb : keyFit P kt b = true) (h : keyEq a b = true) (n : Nat) : Instr.sameBits (n + 1) b a = true := by
  rcases keyFit_cases ha with ⟨k, z, hu, rfl⟩ | ⟨s, hu, rfl⟩ | ⟨n1, e, k, x, hu, he, hs, rfl, hn, ia⟩ <;>
    rcases keyFit_cases hb with ⟨k', z', hu', rfl⟩ | ⟨s', hu', rfl⟩ | ⟨n', e', k', x', hu', he', hs', rfl, hn', ia'⟩ <;>
    rw [hu] at hu' <;> simp at hu'
  · subst hu'
    simp only [keyEq, beq_iff_eq] at h
    subst h
    simp [Instr.sameBits]
  · simp only [keyEq] at h
    simp only [Instr.sameBits]
    rw [beq_toListBytes] at h ⊢
    simp only [beq_iff_eq] at h ⊢
    exact h.symm
  · obtain ⟨rfl, rfl⟩ := hu'
    rw [he] at he'
    simp at he'
    subst he'
    have key : ∀ (l m : List Value), allInt k l = true → allInt k m = true → eqInts l m = true → m.length = l.length ∧ ((m.zip l).all fun (x, y) => Instr.sameBits n x y) = true := by
      intro l
      induction l with
      | nil => intro m _ hm h; cases m <;> simp [eqInts] at h ⊢
      | cons v l ih =>
        intro m hl hm h
        cases m with
        | nil => cases v <;> simp [eqInts] at h
        | cons u m =>
          cases v <;> simp [allInt] at hl
          cases u <;> simp [allInt] at hm
          obtain ⟨rfl, hl⟩ := hl
          obtain ⟨rfl, hm⟩ := hm
          simp only [eqInts, Bool.and_eq_true, beq_iff_eq] at h
          obtain ⟨rfl, h⟩ := h
          obtain ⟨h1, h2⟩ := ih m hl hm h
          refine ⟨by simp [h1], ?_⟩
          simp only [List.zip_cons_cons, List.all_cons, h2, Bool.and_true]
          cases n <;> simp [Instr.sameBits]
    obtain ⟨h1, h2⟩ := key x.toList x'.toList ia ia' h
    simp only [Instr.sameBits, h2, Bool.and_true, beq_iff_eq]
    simpa using h1

theorem fI_get {key : Value} : ∀ {es : List MapEntry} {i j : Nat} {e : MapEntry}, fI key es i = some (j, e) → i ≤ j ∧ es[j - i]? = some e ∧ keyEq key e.key = true
  | [], _, _, _, h => by simp [fI] at h
  | x :: es, i, j, e, h => by
    simp only [fI] at h
    cases hq : keyEq key x.key
    · rw [hq] at h
      obtain ⟨h1, h2, h3⟩ := fI_get h
      refine ⟨by omega, ?_, h3⟩
      have : j - i = (j - (i + 1)) + 1 := by omega
      rw [this]
      simpa using h2
    · rw [hq] at h
      simp at h
      obtain ⟨rfl, rfl⟩ := h
      exact ⟨Nat.le_refl _, by simp, hq⟩

theorem mset_sound {t kt et : TypeId} {w : World} {r : Option Nat} {key v : Value} {K : World → Prop} (ht : P.underlying t = some (.map kt et)) (h : msetP P kt w r key v K) :
    ∃ w', (Instr.mapUpdate t (.map r) key v).run P w = .ok () w' ∧ K w' := by
  obtain ⟨b, es, clock, rfl, hb, hk, hf, hK⟩ := h
  refine ⟨_, ?_, hK⟩
  unfold Instr.mapUpdate
  simp only [Sem.run_bind, run_und ht, Result.andThen_ok, run_getObj hb (by simp), check_fit _ hk, findKey_fit hk hf]
  cases hfi : fI key es.toList 0 with
  | none => simp only [Option.map_none, run_setObj hb (by simp), updE, hfi]
  | some x =>
    obtain ⟨i, e⟩ := x
    obtain ⟨_, he, hke⟩ := fI_get hfi
    simp only [Nat.sub_zero, Array.getElem?_toList] at he
    have hmem : e ∈ es.toList := by
      rw [← Array.getElem?_toList] at he
      exact List.mem_of_getElem? he
    have hsame : Instr.sameBits 10000 e.key key = true := sameBits_keyEq hk (hf e hmem) hke 9999
    simp only [Option.map_some, he, Option.getD_some, Instr.keyThatStays, hsame, if_true, Sem.run_bind, Sem.run_pure, Result.andThen_ok, run_setObj hb (by simp), updE, hfi]
theorem mdel_sound {t kt et : TypeId} {w : World} {r : Option Nat} {key : Value} {K : World → Prop} {c : Call} {ty : TypeId} {tt : List TypeId} (ht : P.underlying t = some (.map kt et)) (hat : c.argTypes.toList = t :: tt) (h : mdelP P kt w r key K) :
    ∃ w', (Builtin.delete_ c.argTypes ty #[.map r, key]).run P w = .ok (.tuple #[]) w' ∧ K w' := by
  obtain ⟨b, es, clock, rfl, hb, hk, hf, hK⟩ := h
  refine ⟨_, ?_, hK⟩
  have hat' : c.argTypes[0]? = some t := by rw [← Array.getElem?_toList, hat]; rfl
  unfold Builtin.delete_
  simp only [hat', List.getElem?_toArray, List.getElem?_cons_zero, List.getElem?_cons_succ, Sem.run_bind, run_und ht, Result.andThen_ok, run_getObj hb (by simp), check_fit _ hk, findKey_fit hk hf]
  cases hfi : fI key es.toList 0 with
  | none => simp only [Option.map_none, Sem.run_bind, run_setObj hb (by simp), delE, hfi, Result.andThen_ok, Sem.run_pure]
  | some x =>
    obtain ⟨i, e⟩ := x
    simp only [Option.map_some, Sem.run_bind, run_setObj hb (by simp), delE, hfi, Result.andThen_ok, Sem.run_pure]

theorem next_sound {w : World} {it : Option Addr} {ty : TypeId} {K : Value → World → Prop} (h : mnextP w it (fun w' => K (.tuple #[.bool false]) w') (fun k v w' => K (.tuple #[.bool true, k, v]) w')) : ∃ v w', (Instr.next (.pointer it) false ty).run P w = .ok v w' ∧ K v w' := by
  obtain ⟨r, s, m, since, seen, last, rfl, hr, h⟩ := h
  unfold Instr.next
  simp only [Sem.run_bind, run_getObj hr (by simp), Result.andThen_ok]
  cases m with
  | none => exact ⟨_, _, rfl, h⟩
  | some m =>
    obtain ⟨es, clock, hm, hst, hdone, hstep⟩ := h
    simp only [Sem.run_bind, run_getObj hm (by simp), Result.andThen_ok, hst, Bool.false_eq_true, if_false]
    let left := es.filter fun e => !seen.contains e.born
    let old := left.filter (·.born < since)
    let new := left.filter (·.born ≥ since)
    let cands : Array (Option MapEntry) := (if old.isEmpty then #[none] else #[]) ++ (old ++ new).map some
    have hne : 0 < cands.size := by
      simp only [cands]
      by_cases ho : old.isEmpty = true
      · simp [ho]; omega
      · have : 0 < old.size := by
          rcases Nat.eq_zero_or_pos old.size with h0 | h0
          · exact (ho (by simpa [Array.isEmpty_iff_size_eq_zero] using h0)).elim
          · exact h0
        simp [ho]; omega
    have hch : ∃ k n, (choose (.mapNext cands.size)).run P w = .ok k (drw w n) ∧ k < cands.size := by
      by_cases hf : (Question.mapNext cands.size).forced = true
      · exact ⟨0, w.drawn, run_chooseF hf, hne⟩
      · exact ⟨_, _, run_chooseD (by simpa using hf), by simp [Question.cut]; exact Nat.mod_lt _ hne⟩
    obtain ⟨k, n, hk, hlt⟩ := hch
    have hget : cands[k]? = some cands[k] := Array.getElem?_eq_getElem hlt
    have hmem := Array.getElem_mem hlt
    show ∃ v w', ((choose (.mapNext cands.size)).run P w).andThen _ = _ ∧ _
    rw [hk, Result.andThen_ok]
    show ∃ v w', Sem.run P (match cands[k]? with
      | some (some e) => _
      | some none => _
      | none => _) _ = _ ∧ _
    rw [hget]
    cases hc : cands[k] with
    | none =>
      rw [hc] at hmem
      have ho : old.isEmpty = true := by
        simp only [cands] at hmem
        by_cases ho : old.isEmpty = true
        · exact ho
        · simp [ho] at hmem
      refine ⟨_, _, rfl, hdone ?_ n⟩
      intro e he hse
      rcases Nat.lt_or_ge e.born since with hlt' | hge
      · exfalso
        have : e ∈ old := by simp [old, left, he, hlt']; simpa using hse
        simp [Array.isEmpty_iff] at ho
        rw [ho] at this
        simp at this
      · exact hge
    | some e =>
      rw [hc] at hmem
      have he : e ∈ es ∧ seen.contains e.born = false := by
        simp only [cands] at hmem
        have : some e ∈ (old ++ new).map some := by
          rcases Array.mem_append.1 hmem with h1 | h1
          · split at h1 <;> simp at h1
          · exact h1
        obtain ⟨x, hx, hxe⟩ := Array.mem_map.1 this
        obtain rfl := Option.some.inj hxe
        have hl : x ∈ left := by
          rcases Array.mem_append.1 hx with h1 | h1
          · exact (Array.mem_filter.1 h1).1
          · exact (Array.mem_filter.1 h1).1
        obtain ⟨h1, h2⟩ := Array.mem_filter.1 hl
        exact ⟨h1, by simpa using h2⟩
      have hr' : (drw w n).heap[r]? = some (.mapIter (some m) since seen last) := hr
      refine ⟨_, _, ?_, hstep e he.1 he.2 n⟩
      simp only [Sem.run_bind, run_setObj hr' (by simp), Result.andThen_ok, Sem.run_pure]

theorem mksl_sound {t e : TypeId} {kl kc : IntKind} {l c : Int} {w : World} {K : Sl → World → Prop} (ht : P.underlying t = some (.slice e)) (h : mkslP P e w l c K) :
    ∃ v w', (Instr.makeSlice t (.int kl l) (.int kc c)).run P w = .ok (Sl.v v) w' ∧ K v w' := by
  unfold mkslP at h
  split at h
  case h_2 => exact h.elim
  rename_i size bytes z hsz hby hz
  obtain ⟨⟨h0, h1, h2, h3⟩, hK⟩ := h
  obtain ⟨i, hi, rfl⟩ : ∃ i, P.info? e = some i ∧ i.bytes = bytes := by
    cases hi : P.info? e with
    | none => simp [hi] at hby
    | some i => exact ⟨i, rfl, by simpa [hi] using hby⟩
  have hz' : i.zero = some z := by simpa [zeroT, hi] using hz
  have hs' : i.size = size := by simpa [sizeT, hi] using hsz
  subst hs'
  exact ⟨_, _, run_make w t e i z ht hi hz' kl kc l c h0 h1 (by omega) (by omega), hK⟩

theorem freeze_alloc (w : World) (c : Array Value) (e : TypeId) (n : Nat) : (w.alloc (.cells c e)).freeze { block := w.heap.size, off := n } 1 = w.alloc (.cells c e (n, n + 1)) := by
  unfold World.freeze World.alloc
  simp only [Nat.one_ne_zero, if_false]
  congr 1
  apply Array.ext_getElem?
  intro i
  rw [Array.getElem?_modify, Array.getElem?_push, Array.getElem?_push]
  by_cases hi : i = w.heap.size
  · subst hi; simp
  · have hi' : ¬ w.heap.size = i := fun h => hi h.symm
    simp [hi, hi']
theorem s2b_sound {e : TypeId} {s : ByteArray} {w : World} {K : Sl → World → Prop} (h : s2bP e w s K) : ∃ v w', (Conv.stringToBytes e s).run P w = .ok (Sl.v v) w' ∧ K v w' := by
  have hK := h ((Question.appendCap s.size 0 e).cut (w.tape w.drawn (.appendCap s.size 0 e))) (w.drawn + 1) (by simp [Question.cut])
  refine ⟨_, _, ?_, hK⟩
  unfold Conv.stringToBytes
  simp only [Sem.run_bind, run_chooseD (show (Question.appendCap s.size 0 e).forced = false from rfl), Result.andThen_ok, newRow, run_newObj, Sem.run_pure, markStringish]
  generalize hn : (Question.appendCap s.size 0 e).cut (w.tape w.drawn (Question.appendCap s.size 0 e)) - s.size = m
  generalize hc : (Array.map (fun b : UInt8 => Value.int IntKind.u8 (b.toNat : Int)) s.data ++ Array.replicate m (Value.int IntKind.u8 0)) = cs
  have hsz : cs.size = s.size + m := by rw [← hc]; simp
  have hshape : (shape (drw w (w.drawn + 1)).heap.size).run P ((drw w (w.drawn + 1)).alloc (.cells cs e)) = .ok (some (e, s.size + m)) ((drw w (w.drawn + 1)).alloc (.cells cs e)) := by
    show Result.ok (World.shape? _ _) _ = _
    congr 1
    unfold World.shape? World.alloc
    rw [Array.getElem?_push_size]
    simp only [hsz]
  rw [hshape]
  have hfr : (Go.freeze { block := (drw w (w.drawn + 1)).heap.size, off := s.size + m } 1).run P ((drw w (w.drawn + 1)).alloc (.cells cs e)) = .ok () ((drw w (w.drawn + 1)).alloc (.cells cs e (s.size + m, s.size + m + 1))) := by
    rw [← freeze_alloc]
    rfl
  simp only [Result.andThen_ok, hfr]

theorem callFunc_enter {f : FuncId} {fn : Func} {args : Array Value} {w : World} (hf : P.funcs[f]? = some fn) (hn : (fn.name == "runtime.NumGoroutine") = false) (hb : fn.body.isSome = true) :
    (callFunc f args).run P w = .ok (.enter f args) w := by
  have hb' : fn.body.isNone = false := by cases hbb : fn.body <;> simp_all
  unfold callFunc
  simp only [Sem.run_bind, run_program, Result.andThen_ok, hf, hn, Bool.false_eq_true, if_false, hb', Sem.run_pure]

theorem callP_mono {f : FuncId} {args : Array Value} {w : World} {K K' : Value → World → Prop} (h : callP P f args w K) (hk : ∀ v w', K v w' → K' v w') : callP P f args w K' :=
  Calls.mono h fun _ _ ⟨v, hv, hK⟩ => ⟨v, hv, hk _ _ hK⟩

theorem eff_sound {o : Oper} {ρ : Operand → Value} {w : World} {K : Value → World → Prop} (hρ : ∀ f, ρ (.func f) = .func (.func f) #[] #[]) (h : effDn P o ρ w K) : Eff P (execOp ρ o) w K := by
  unfold effDn at h
  split at h
  case h_1 t hop =>
    split at h
    · rename_i z hz
      exact Eff.value (by simp only [execOp, hop, Instr.alloc, Sem.run_bind, run_zer hz, Result.andThen_ok, newVar, newRow, run_newObj, Sem.run_pure]) h
    · exact h.elim
  case h_2 t x hop =>
    exact Eff.value (by simp only [execOp, hop, Instr.box, Sem.run_bind, Result.andThen_ok, newVar, newRow, run_newObj, Sem.run_pure]) h
  case h_3 t len parts hop =>
    split at h
    · rename_i e hu
      split at h
      · rename_i size z hs hz
        split at h
        · rename_i hle
          split at h
          · rename_i cs hcs
            have hle' : ¬ len * size > 2 ^ 24 := by simp at hle; omega
            refine Eff.value ?_ h
            simp only [execOp, hop, Instr.buildSlice, Sem.run_bind, run_und hu, Result.andThen_ok, run_siz hs, hle', if_false]
            by_cases h0 : len * size = 0
            · rw [if_pos h0] at hcs ⊢
              simp only [zeroRow] at hcs
              simp only [Sem.run_bind, Sem.run_pure, Result.andThen_ok, hcs, newRow, run_newObj]
            · rw [if_neg h0] at hcs ⊢
              simp only [zeroRow] at hcs
              simp only [Sem.run_bind, run_zer hz, Sem.run_pure, Result.andThen_ok, hcs, newRow, run_newObj]
          · exact h.elim
        · exact h.elim
      · exact h.elim
    · exact h.elim
  case h_4 t a x hop =>
    split at h
    · rename_i p hp
      cases p with
      | none => exact h.elim
      | some p =>
      simp only [nn] at h
      split at h
      · rename_i hb
        simp only [Bool.and_eq_true, Nat.beq_eq] at hb
        have hs : sizeT P t = some (ρ x).cells.size := by
          cases hq : sizeT P t with
          | none => rw [hq] at hb; simp at hb
          | some n => rw [hq] at hb; simp at hb; rw [hb]
        exact Eff.skip (by simp only [execOp, hop, Instr.storeAt, hp, Instr.sureAddr, Sem.run_bind, Sem.run_pure, Result.andThen_ok, run_storeVar hs h.1]) h.2
      · exact h.elim
    · exact h.elim
  case h_5 t hop =>
    exact Eff.value (by simp only [execOp, hop, Option.map_none, Instr.makeMap, Sem.run_bind, Result.andThen_ok, run_newObj, Sem.run_pure]) h
  case h_6 t l c hop =>
    split at h
    · rename_i e kl l' kc c' hu hl hc
      obtain ⟨v, w', hr, hK⟩ := mksl_sound (kl := kl) (kc := kc) hu h
      exact Eff.value (by simp only [execOp, hop, hl, hc, Sem.run_bind, hr, Result.andThen_ok, Sem.run_pure]) hK
    · exact h.elim
  case h_7 t m k x hop =>
    split at h
    · rename_i kt et r hu hm
      obtain ⟨w', hr, hK⟩ := mset_sound hu h
      exact Eff.skip (by simp only [execOp, hop, hm, Sem.run_bind, hr, Result.andThen_ok, Sem.run_pure]) hK
    · exact h.elim
  case h_8 t m k x hop =>
    split at h
    · rename_i kt et r hu hm
      obtain ⟨w', hr, hK⟩ := mset_sound hu h
      exact Eff.skip (by simp only [execOp, hop, hm, Sem.run_bind, hr, Result.andThen_ok, Sem.run_pure]) hK
    · exact h.elim
  case h_9 t x hop =>
    split at h
    · rename_i kt et r hu hx
      obtain ⟨it, hit, hK⟩ := h
      cases r with
      | none =>
        simp only [iterOf] at hit
        subst hit
        exact Eff.value (by simp only [execOp, hop, hx, Instr.range, Sem.run_bind, run_und hu, Result.andThen_ok, run_newObj, Sem.run_pure]) hK
      | some m =>
        obtain ⟨es, clock, hm, rfl⟩ := hit
        exact Eff.value (by simp only [execOp, hop, hx, Instr.range, Sem.run_bind, run_und hu, Result.andThen_ok, run_getObj hm (by simp), run_newObj, Sem.run_pure]) hK
    · exact h.elim
  case h_10 it hop =>
    split at h
    · rename_i p hp
      obtain ⟨v, w', hr, hK⟩ := next_sound (P := P) (ty := o.type) h
      exact Eff.value (by simp only [execOp, hop, hp, Sem.run_bind, hr, Result.andThen_ok, Sem.run_pure]) hK
    · exact h.elim
  case h_11 src dst x hop =>
    split at h
    · rename_i e s hs hd hx
      split at h
      · rename_i he
        obtain ⟨v, w', hr, hK⟩ := s2b_sound (P := P) h
        exact Eff.value (by simp only [execOp, hop, hx, convert, Sem.run_bind, run_und hs, run_und hd, run_und he, hr, Result.andThen_ok, Sem.run_pure]) hK
      · exact h.elim
    · exact h.elim
  case h_12 c hop =>
    split at h
    · rename_i f hc
      split at h
      · rename_i fn hf
        split at h
        · exact h.elim
        · rename_i hn
          have hn' : (fn.name == "runtime.NumGoroutine") = false := by simpa using hn
          split at h
          · rename_i hb
            refine Eff.enter (w' := w) (f := f) (args := c.args.map ρ) ?_ (callP_mono h fun v w' hd => dcR_sound hd)
            simp only [execOp, hop, resolve, hc, hρ, Sem.run_bind, Deferred.ofValue, Sem.run_pure, Result.andThen_ok, invoke, Array.append_empty, Array.empty_append, callFunc_enter hf hn' hb]
          · obtain ⟨v, hr, hd⟩ := h
            refine Eff.value (w' := w) (v := v) ?_ (dcR_sound hd)
            simp only [execOp, hop, resolve, hc, hρ, Sem.run_bind, Deferred.ofValue, Sem.run_pure, Result.andThen_ok, invoke, Array.append_empty, Array.empty_append, hr]
      · exact h.elim
    · rename_i x hx hc
      split at h
      · rename_i f first cap hv
        obtain ⟨⟨fn, hf, hb, hn⟩, h⟩ := h
        refine Eff.enter (w' := w) (f := f) (args := first ++ c.args.map ρ ++ cap) ?_ (callP_mono h fun v w' hd => dcR_sound hd)
        simp only [execOp, hop, resolve, hc, hv, Sem.run_bind, Deferred.ofValue, Sem.run_pure, Result.andThen_ok, invoke, callFunc_enter hf hn hb]
      · exact h.elim
    · rename_i hc
      split at h
      · rename_i t u s x hat hargs
        have ha : c.args = #[s, x] := by apply Array.ext'; simpa using hargs
        split at h
        · rename_i e e' p n m q k l ht hu hs hx
          obtain ⟨v, w', hr, hK⟩ := app_sound (ty := o.type) ht hu (by simp) rfl (by simp [isStr]) hat h
          refine Eff.value ?_ hK
          simp only [execOp, hop, resolve, hc, ha, invoke, builtin, Sem.run_bind, Sem.run_pure, Result.andThen_ok, List.map_toArray, List.map_cons, List.map_nil, hs, hx]
          simp only [Sl.v] at hr
          simp only [hr, Result.andThen_ok]
        · rename_i e p n m t' ht hu hs hx
          split at h
          · rename_i hsz
            simp only [if_true] at h
            obtain ⟨v, w', hr, hK⟩ := app_sound (ty := o.type) ht hu (by simp) rfl (fun _ => hsz) hat h
            refine Eff.value ?_ hK
            simp only [execOp, hop, resolve, hc, ha, invoke, builtin, Sem.run_bind, Sem.run_pure, Result.andThen_ok, List.map_toArray, List.map_cons, List.map_nil, hs, hx]
            simp only [Sl.v] at hr
            simp only [hr, Result.andThen_ok]
          · simp at h
        · exact h.elim
      · exact h.elim
    · rename_i hc
      split at h
      · rename_i t tt s x hat hargs
        have ha : c.args = #[s, x] := by apply Array.ext'; simpa using hargs
        split at h
        · rename_i e p n m q k l ht hs hx
          obtain ⟨v, w', hr, hK⟩ := copy_sound (ty := o.type) ht rfl (by simp [isStr]) hat h
          refine Eff.value ?_ hK
          simp only [execOp, hop, resolve, hc, ha, invoke, builtin, Sem.run_bind, Sem.run_pure, Result.andThen_ok, List.map_toArray, List.map_cons, List.map_nil, hs, hx]
          simp only [Sl.v] at hr
          simp only [hr, Result.andThen_ok]
        · rename_i e p n m t' ht hs hx
          split at h
          · rename_i hsz
            simp only [if_true] at h
            obtain ⟨v, w', hr, hK⟩ := copy_sound (ty := o.type) ht rfl (fun _ => hsz) hat h
            refine Eff.value ?_ hK
            simp only [execOp, hop, resolve, hc, ha, invoke, builtin, Sem.run_bind, Sem.run_pure, Result.andThen_ok, List.map_toArray, List.map_cons, List.map_nil, hs, hx]
            simp only [Sl.v] at hr
            simp only [hr, Result.andThen_ok]
          · simp at h
        · exact h.elim
      · exact h.elim
    · rename_i hc
      split at h
      · rename_i t tt m k hat hargs
        have ha : c.args = #[m, k] := by apply Array.ext'; simpa using hargs
        split at h
        · rename_i kt et r ht hm
          obtain ⟨w', hr, hK⟩ := mdel_sound (ty := o.type) ht hat h
          refine Eff.value ?_ hK
          simp only [execOp, hop, resolve, hc, ha, invoke, builtin, Sem.run_bind, Sem.run_pure, Result.andThen_ok, List.map_toArray, List.map_cons, List.map_nil, hm, hr]
        · exact h.elim
      · exact h.elim
    · exact h.elim
  case h_13 => exact h.elim
end Go.Proofs.YtpcgkfgppfjnlaaGreatDoor.V
