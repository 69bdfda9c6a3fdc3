import Derived.RangeFuncRecord
import Derived.LoopNIn
import Derived.OrdersIn
import Derived.RangeFuncIn
import Derived.RangeFuncCalls
import Derived.Laws.Append
import Derived.Laws.AppendOwn
import Derived.Laws.Cells
import Derived.Laws.CopyRow
/- An evaluator of the model's code on a clean state: blocks have names of their own, nothing is drawn. Definitions alone. -/
namespace Go.Ev
open Go

/-- A finite map from numbers, as a tree over their digits. -/
inductive T (α : Type) where
  | nil
  | node (v : Option α) (l r : T α)

def T.get {α : Type} : T α → Nat → Option α
  | .nil, _ => none
  | .node v l r, n => bif Nat.beq n 0 then v else bif Nat.beq (n % 2) 1 then l.get (n / 2) else r.get (n / 2 - 1)

def T.setF {α : Type} (v : Option α) : Nat → T α → Nat → T α
  | 0, t, _ => t
  | f + 1, .nil, n =>
    bif Nat.beq n 0 then .node v .nil .nil
    else bif Nat.beq (n % 2) 1 then .node none (T.setF v f .nil (n / 2)) .nil else .node none .nil (T.setF v f .nil (n / 2 - 1))
  | f + 1, .node x l r, n =>
    bif Nat.beq n 0 then .node v l r
    else bif Nat.beq (n % 2) 1 then .node x (T.setF v f l (n / 2)) r else .node x l (T.setF v f r (n / 2 - 1))

def T.put {α : Type} (t : T α) (n : Nat) (v : Option α) : T α := T.setF v (n + 1) t n

theorem beq_t {a b : Nat} (h : a = b) : Nat.beq a b = true := by subst h; exact Nat.beq_refl a
theorem beq_f {a b : Nat} (h : a ≠ b) : Nat.beq a b = false := by
  cases hh : Nat.beq a b with
  | false => rfl
  | true => exact absurd (Nat.eq_of_beq_eq_true hh) h

theorem T.get_node {α : Type} (v : Option α) (l r : T α) (n : Nat) :
    (T.node v l r).get n = if n = 0 then v else if n % 2 = 1 then l.get (n / 2) else r.get (n / 2 - 1) := by
  simp only [T.get]
  by_cases h0 : n = 0
  · rw [if_pos h0, beq_t h0]; rfl
  · rw [if_neg h0, beq_f h0]
    by_cases h1 : n % 2 = 1
    · rw [if_pos h1, beq_t h1]; rfl
    · rw [if_neg h1, beq_f h1]; rfl

theorem T.get_setF {α : Type} (v : Option α) : ∀ (f : Nat) (t : T α) (n m : Nat), n < f → (T.setF v f t n).get m = if m = n then v else t.get m := by
  intro f
  induction f with
  | zero => intro t n m h; omega
  | succ f ih =>
    intro t n m h
    cases t with
    | nil =>
      simp only [T.setF]
      by_cases h0 : n = 0
      · rw [beq_t h0, cond_true, T.get_node]
        by_cases hm : m = 0
        · rw [if_pos hm, if_pos (by omega)]
        · rw [if_neg hm, if_neg (show ¬ m = n by omega)]; simp [T.get]
      · rw [beq_f h0, cond_false]
        by_cases h1 : n % 2 = 1
        · rw [beq_t h1, cond_true, T.get_node, ih _ _ _ (by omega)]
          by_cases hm : m = 0
          · rw [if_pos hm, if_neg (by omega)]; rfl
          · rw [if_neg hm]
            by_cases hm1 : m % 2 = 1
            · rw [if_pos hm1]
              by_cases he : m = n
              · rw [if_pos he, if_pos (by omega)]
              · rw [if_neg he, if_neg (by omega)]; rfl
            · rw [if_neg hm1, if_neg (by omega)]; rfl
        · rw [beq_f h1, cond_false, T.get_node, ih _ _ _ (by omega)]
          by_cases hm : m = 0
          · rw [if_pos hm, if_neg (by omega)]; rfl
          · rw [if_neg hm]
            by_cases hm1 : m % 2 = 1
            · rw [if_pos hm1, if_neg (by omega)]; rfl
            · rw [if_neg hm1]
              by_cases he : m = n
              · rw [if_pos he, if_pos (by omega)]
              · rw [if_neg he, if_neg (by omega)]; rfl
    | node x l r =>
      simp only [T.setF]
      by_cases h0 : n = 0
      · rw [beq_t h0, cond_true, T.get_node, T.get_node]
        by_cases hm : m = 0
        · rw [if_pos hm, if_pos (by omega)]
        · rw [if_neg hm, if_neg (show ¬ m = n by omega), if_neg hm]
      · rw [beq_f h0, cond_false]
        by_cases h1 : n % 2 = 1
        · rw [beq_t h1, cond_true, T.get_node, T.get_node, ih _ _ _ (by omega)]
          by_cases hm : m = 0
          · rw [if_pos hm, if_neg (by omega), if_pos hm]
          · rw [if_neg hm, if_neg hm]
            by_cases hm1 : m % 2 = 1
            · rw [if_pos hm1, if_pos hm1]
              by_cases he : m = n
              · rw [if_pos he, if_pos (by omega)]
              · rw [if_neg he, if_neg (by omega)]
            · rw [if_neg hm1, if_neg hm1, if_neg (by omega)]
        · rw [beq_f h1, cond_false, T.get_node, T.get_node, ih _ _ _ (by omega)]
          by_cases hm : m = 0
          · rw [if_pos hm, if_neg (by omega), if_pos hm]
          · rw [if_neg hm, if_neg hm]
            by_cases hm1 : m % 2 = 1
            · rw [if_pos hm1, if_pos hm1, if_neg (by omega)]
            · rw [if_neg hm1, if_neg hm1]
              by_cases he : m = n
              · rw [if_pos he, if_pos (by omega)]
              · rw [if_neg he, if_neg (by omega)]

theorem T.get_put {α : Type} (t : T α) (n : Nat) (v : Option α) (m : Nat) : (t.put n v).get m = if m = n then v else t.get m :=
  T.get_setF v (n + 1) t n m (by omega)
theorem T.get_put_eq {α : Type} (t : T α) (n : Nat) (v : Option α) : (t.put n v).get n = v := by rw [T.get_put, if_pos rfl]
theorem T.get_put_ne {α : Type} (t : T α) (n : Nat) (v : Option α) {m : Nat} (h : m ≠ n) : (t.put n v).get m = t.get m := by rw [T.get_put, if_neg h]
theorem T.get_nil {α : Type} (m : Nat) : (T.nil : T α).get m = none := rfl

/-- A capacity from UNK on is not known: at least what it exceeds UNK by. -/
def UNK : Nat := 1000000000000000000000000

structure ALoop where
  fr : T Value
  sz : Nat
  params : Array Tmp
  assign : Code
  body : Code
  state : LoopState
  pending : Option Code

inductive AObj where
  | cells (wr : Bool) (elem : TypeId) (cs : List Value)
  | map (es : List (Value × Value))
  | loop (L : ALoop)

structure HS where
  hp : T AObj
  nx : Nat

abbrev Fr := T Value

inductive Sig where
  | normal
  | exit (id : Nat)
  | ret

def omap {α β : Type} (f : α → Option β) : List α → Option (List β)
  | [] => some []
  | x :: xs => (f x).bind fun y => (omap f xs).bind fun ys => some (y :: ys)

/-- No address stands in it. -/
def plainN : Nat → Value → Bool
  | _, .bool _ => true
  | _, .int _ _ => true
  | _, .float _ _ => true
  | _, .complex _ _ _ => true
  | _, .string _ => true
  | _, .pointer none => true
  | _, .slice none _ _ => true
  | _, .map none => true
  | _, .chan none => true
  | _, .nilFunc => true
  | _, .nilIface => true
  | n + 1, .agg cs => cs.toList.all (plainN n)
  | n + 1, .tuple cs => cs.toList.all (plainN n)
  | n + 1, .iface _ v => plainN n v
  | _, _ => false

/-! ### What a type tells -/
section types
variable (P : Program)

/-- How many cells a value has, and whether it is an aggregate. -/
def tyA (t : TypeId) : Option (Nat × Bool) :=
  match P.info? t, P.underlying t with
  | some i, some (.struct _) => some (i.size, true)
  | some i, some (.array _ _) => some (i.size, true)
  | some i, some _ => some (i.size, false)
  | _, _ => none
def szA (t : TypeId) : Option Nat := (P.info? t).map (·.size)
def bytesA (t : TypeId) : Option Nat := (P.info? t).map (·.bytes)
def zeroA (t : TypeId) : Option Value := (P.info? t).bind fun i => i.zero.bind fun v => bif plainN 4 v then some v else none
def elemA (t : TypeId) : Option TypeId := match P.underlying t with | some (.slice e) => some e | _ => none
/-- Where a field lies: its offset, its size, its type. -/
def fieldA (s : TypeId) (f : Nat) : Option (Nat × Nat × TypeId) :=
  match P.underlying s with
  | some (.struct fs) => (fs[f]?).bind fun x => (szA P x.type).bind fun n => some (x.offset, n, x.type)
  | _ => none
def fieldsA (s : TypeId) : Option (List Field) := match P.underlying s with | some (.struct fs) => some fs.toList | _ => none
def arrA (t : TypeId) : Option (Nat × TypeId) := match P.underlying t with | some (.array n e) => some (n, e) | _ => none
def mapA (t : TypeId) : Option (TypeId × TypeId) := match P.underlying t with | some (.map k e) => some (k, e) | _ => none
end types

/-! ### Memory -/
def cutL (cs : List Value) (off n : Nat) : Option (List Value) := if off + n ≤ cs.length then some ((cs.drop off).take n) else none
def putL (cs : List Value) (off : Nat) (vs : List Value) : List Value := cs.take off ++ (vs ++ cs.drop (off + vs.length))

def readA (h : T AObj) (a : Addr) (n : Nat) : Option (List Value) :=
  match a.spot, h.get a.block with
  | none, some (.cells _ _ cs) => cutL cs a.off n
  | _, _ => none
def writeA (lk : Nat) (h : T AObj) (a : Addr) (vs : List Value) : Option (T AObj) :=
  match a.spot, h.get a.block with
  | none, some (.cells true e cs) =>
    if lk ≤ a.block ∧ a.off + vs.length ≤ cs.length ∧ vs.all Value.oneCell' = true then some (h.put a.block (some (.cells true e (putL cs a.off vs)))) else none
  | _, _ => none
def newA (s : HS) (e : TypeId) (cs : List Value) : Nat × HS := (s.nx, { hp := s.hp.put s.nx (some (.cells true e cs)), nx := s.nx + 1 })

def packA (agg : Bool) (vs : List Value) : Option Value := if agg then some (.agg vs.toArray) else match vs with | [v] => some v | _ => none

def loadV (P : Program) (h : T AObj) (t : TypeId) (a : Value) : Option Value :=
  match a with
  | .pointer (some ad) => (tyA P t).bind fun (n, g) => (readA h ad n).bind (packA g)
  | _ => none
def storeV (P : Program) (lk : Nat) (s : HS) (t : TypeId) (a v : Value) : Option HS :=
  match a with
  | .pointer (some ad) => (szA P t).bind fun n => if v.cells.toList.length = n then (writeA lk s.hp ad v.cells.toList).map fun h => { s with hp := h } else none
  | _ => none

/-! ### Operators -/
def intBinA (op : BinOp) (k : IntKind) (a b : Int) : Option Value :=
  match op with
  | .add => some (.int k (k.wrap (a + b)))
  | .sub => some (.int k (k.wrap (a - b)))
  | .mul => some (.int k (k.wrap (a * b)))
  | .quo => if b = 0 then none else some (.int k (k.wrap (a.tdiv b)))
  | .rem => if b = 0 then none else some (.int k (a.tmod b))
  | .and => some (.int k (k.wrap (BitVec.ofInt k.bits a &&& BitVec.ofInt k.bits b).toNat))
  | .or => some (.int k (k.wrap (BitVec.ofInt k.bits a ||| BitVec.ofInt k.bits b).toNat))
  | .xor => some (.int k (k.wrap (BitVec.ofInt k.bits a ^^^ BitVec.ofInt k.bits b).toNat))
  | .andNot => some (.int k (k.wrap (BitVec.ofInt k.bits a &&& ~~~BitVec.ofInt k.bits b).toNat))
  | .eql => some (.bool (a == b))
  | .neq => some (.bool (a != b))
  | .lss => some (.bool (a < b))
  | .leq => some (.bool (a ≤ b))
  | .gtr => some (.bool (a > b))
  | .geq => some (.bool (a ≥ b))
  | .shl | .shr => none

def shiftA (op : BinOp) (k : IntKind) (a b : Int) : Option Value :=
  if b < 0 then none else
  match op with
  | .shl => some (.int k (k.wrap (a * 2 ^ (min b.toNat k.bits))))
  | .shr => some (.int k (a.fdiv (2 ^ (min b.toNat k.bits))))
  | _ => none

def strBinA (op : BinOp) (x y : ByteArray) : Option Value :=
  match op with
  | .add => if ((x.size + y.size : Nat) : Int) > IntKind.i64.max then none else some (.string (x ++ y))
  | .eql => some (.bool (x.toList == y.toList))
  | .neq => some (.bool !(x.toList == y.toList))
  | .lss => some (.bool (Op.bytesLess x.toList y.toList))
  | .leq => some (.bool (Op.bytesLess x.toList y.toList || x.toList == y.toList))
  | .gtr => some (.bool !(Op.bytesLess x.toList y.toList || x.toList == y.toList))
  | .geq => some (.bool !(Op.bytesLess x.toList y.toList))
  | _ => none

def partA (P : Program) (t : TypeId) (cs : List Value) (off : Nat) : Option Value :=
  (tyA P t).bind fun (n, g) => (cutL cs off n).bind (packA g)

def eqFields (P : Program) (eq : TypeId → Value → Value → Option Bool) (xs ys : List Value) : List Field → Option Bool
  | [] => some true
  | f :: fs => if f.name = "_" then eqFields P eq xs ys fs else
    (partA P f.type xs f.offset).bind fun a => (partA P f.type ys f.offset).bind fun b =>
    (eq f.type a b).bind fun r => if r then eqFields P eq xs ys fs else some false

/-- '==' of two values of a type; nothing is told of two addresses. -/
def eqA (P : Program) : Nat → TypeId → Value → Value → Option Bool
  | 0, _, _, _ => none
  | d + 1, t, x, y =>
    match P.underlying t, x, y with
    | some .bool, .bool a, .bool b => some (a == b)
    | some (.int _), .int k a, .int k' b => if k = k' then some (a == b) else none
    | some .string, .string a, .string b => some (a == b)
    | some (.pointer _), .pointer none, .pointer b => some b.isNone
    | some (.pointer _), .pointer (some _), .pointer none => some false
    | some (.slice _), .slice none _ _, .slice b _ _ => some b.isNone
    | some (.slice _), .slice (some _) _ _, .slice none _ _ => some false
    | some (.map _ _), .map none, .map b => some b.isNone
    | some (.map _ _), .map (some _), .map none => some false
    | some (.func _ _ _), .nilFunc, .nilFunc => some true
    | some (.func _ _ _), .nilFunc, .func _ _ _ => some false
    | some (.func _ _ _), .func _ _ _, .nilFunc => some false
    | some (.struct fields), .agg xs, .agg ys =>
      if P.stoodInHeld t then none else eqFields P (eqA P d) xs.toList ys.toList fields.toList
    | _, _, _ => none

def eqGuardA (P : Program) (t : TypeId) (x y : Value) : Bool :=
  match x, y with
  | .nilIface, .nilIface => false
  | .float _ _, _ => false
  | .complex _ _ _, _ => false
  | .agg _, .agg _ => !P.eqGuardType P.depth t
  | _, _ => true

def binA (P : Program) (op : BinOp) (t : TypeId) (x y : Value) : Option Value :=
  match x, y with
  | .int k a, .int k' b =>
    match op with
    | .shl | .shr => shiftA op k a b
    | _ => if k = k' then intBinA op k a b else none
  | .string a, .string b => strBinA op a b
  | _, _ =>
    match op with
    | .eql => if eqGuardA P t x y then (eqA P 10000 t x y).map .bool else none
    | .neq => if eqGuardA P t x y then (eqA P 10000 t x y).map fun b => .bool !b else none
    | _ => none

def unA (op : UnOp) (x : Value) : Option Value :=
  match op, x with
  | .neg, .int k n => some (.int k (k.wrap (0 - n)))
  | .xor, .int k n => some (.int k (k.wrap (BitVec.ofInt k.bits (if k.signed then -1 else k.max) ^^^ BitVec.ofInt k.bits n).toNat))
  | .not, .bool b => some (.bool !b)
  | _, _ => none

def convA (P : Program) (src dst : TypeId) (x : Value) : Option Value :=
  match P.underlying src, P.underlying dst, x with
  | some (.int _), some (.int k), .int _ n => some (.int k (k.wrap n))
  | some .string, some .string, .string s => some (.string s)
  | _, _, _ => none

/-! ### Operations on slices and aggregates -/
def fillA (place : Nat → Option (Nat × Nat)) (cs : List Value) : List (Nat × Value) → Option (List Value)
  | [] => some cs
  | (i, v) :: rest => (place i).bind fun (off, size) =>
    if v.cells.toList.length ≠ size ∨ cs.length < off + v.cells.toList.length then none else fillA place (putL cs off v.cells.toList) rest

def buildA (P : Program) (t : TypeId) (parts : List (Nat × Value)) : Option Value :=
  (zeroA P t).bind fun z =>
  match P.underlying t with
  | some (.struct fields) =>
    (omap (fun (f : Field) => (szA P f.type).map fun n => (f.offset, n)) fields.toList).bind fun places =>
    (fillA (fun i => places[i]?) z.cells.toList parts).map fun cs => .agg cs.toArray
  | some (.array _ elem) => (szA P elem).bind fun size => (fillA (fun i => some (i * size, size)) z.cells.toList parts).map fun cs => .agg cs.toArray
  | _ => none

/-- n zero elements. -/
def zerosL (z : List Value) : Nat → List Value
  | 0 => []
  | n + 1 => z ++ zerosL z n

def buildSliceA (P : Program) (t : TypeId) (len : Nat) (parts : List (Nat × Value)) (s : HS) : Option (Value × HS) :=
  (elemA P t).bind fun e => (szA P e).bind fun size => (zeroA P e).bind fun z =>
  if z.cells.toList.length = size ∧ size ≠ 0 ∧ len * size ≤ 2 ^ 24 then
    (fillA (fun i => some (i * size, size)) (zerosL z.cells.toList len) parts).map fun cs =>
      let (id, s') := newA s e cs
      (.slice (some ⟨id, 0, none⟩) len len, s')
  else none

def makeSliceA (P : Program) (t : TypeId) (len cap : Value) (s : HS) : Option (Value × HS) :=
  match len, cap with
  | .int _ l, .int _ c =>
    (elemA P t).bind fun e => (szA P e).bind fun size => (bytesA P e).bind fun by_ => (zeroA P e).bind fun z =>
    if z.cells.toList.length = size ∧ size ≠ 0 ∧ 0 ≤ l ∧ l ≤ c ∧ c ≤ 1099511627776 ∧ by_ * c ≤ 1099511627776 then
      let (id, s') := newA s e (zerosL z.cells.toList c.toNat)
      some (.slice (some ⟨id, 0, none⟩) l.toNat c.toNat, s')
    else none
  | _, _ => none

def indexAddrA (P : Program) (t : TypeId) (x i : Value) : Option Value :=
  match i with
  | .int _ i =>
    match P.underlying t, x with
    | some (.slice e), .slice (some a) len _ => (szA P e).bind fun n => if 0 ≤ i ∧ i < len then some (.pointer (some ⟨a.block, a.off + i.toNat * n, none⟩)) else none
    | some (.array len e), .pointer (some a) => (szA P e).bind fun n => if 0 ≤ i ∧ i < len then some (.pointer (some ⟨a.block, a.off + i.toNat * n, none⟩)) else none
    | _, _ => none
  | _ => none

def fieldAddrA (P : Program) (t : TypeId) (x : Value) (f : Nat) : Option Value :=
  match x with
  | .pointer (some a) => (fieldA P t f).bind fun (off, n, _) => if n = 0 then none else some (.pointer (some ⟨a.block, a.off + off, none⟩))
  | _ => none

def fieldValA (P : Program) (t : TypeId) (x : Value) (f : Nat) : Option Value :=
  match x with
  | .agg cs => (fieldA P t f).bind fun (off, _, ft) => partA P ft cs.toList off
  | _ => none

def indexA (P : Program) (t : TypeId) (x i : Value) : Option Value :=
  match i with
  | .int _ i =>
    match P.underlying t, x with
    | some (.array len e), .agg cs => (szA P e).bind fun n => if 0 ≤ i ∧ i < len then partA P e cs.toList (i.toNat * n) else none
    | some .string, .string s => if 0 ≤ i then (s.data.toList[i.toNat]?).map fun b => .int .u8 b.toNat else none
    | _, _ => none
  | _ => none

def natA : Value → Option Nat
  | .int _ i => if 0 ≤ i then some i.toNat else none
  | _ => none
def onatA : Option Value → Option (Option Nat)
  | none => some none
  | some v => (natA v).map some

def liveE (P : Program) (h : T AObj) (id n : Nat) : Bool := match h.get id with | some (.cells _ e _) => szA P e == some n | _ => false

def sliceA (P : Program) (h : T AObj) (t : TypeId) (x : Value) (lo hi mx : Option Value) : Option Value :=
  (onatA lo).bind fun lo => (onatA hi).bind fun hi => (onatA mx).bind fun mx =>
  let l := lo.getD 0
  match P.underlying t, x with
  | some .string, .string s =>
    let hh := hi.getD s.size
    if mx = none ∧ l ≤ hh ∧ hh ≤ s.size then some (.string (s.extract l hh)) else none
  | some (.slice e), .slice a len cap => (szA P e).bind fun n =>
    let hh := hi.getD len
    match mx with
    | some m =>
      if l ≤ hh ∧ hh ≤ m ∧ hi.isSome = true ∧ m < UNK ∧ ((cap < UNK ∧ m ≤ cap) ∨ (UNK ≤ cap ∧ m ≤ len ∧ 0 < len)) then
        some (.slice (if m = l then a else a.map fun a => ⟨a.block, a.off + l * n, none⟩) (hh - l) (m - l)) else none
    | none =>
      if cap < UNK then
        if l ≤ hh ∧ hh ≤ cap then some (.slice (if cap = l then a else a.map fun a => ⟨a.block, a.off + l * n, none⟩) (hh - l) (cap - l)) else none
      else
        match a with
        | some a => if l ≤ hh ∧ hh ≤ len ∧ liveE P h a.block n = true then some (.slice (some ⟨a.block, a.off + l * n, none⟩) (hh - l) (UNK + (cap - UNK - l))) else none
        | none => none
  | some (.array len e), .pointer (some a) => (szA P e).bind fun n =>
    let hh := hi.getD len
    let m := mx.getD len
    if l ≤ hh ∧ hh ≤ m ∧ m ≤ len ∧ len < UNK ∧ (mx.isSome = true → hi.isSome = true) then some (.slice (some (if m = l then a else ⟨a.block, a.off + l * n, none⟩)) (hh - l) (m - l)) else none
  | _, _ => none

/-- The cells of the first n elements. -/
def firstA (h : T AObj) (size n : Nat) : Value → Option (List Value)
  | .slice (some a) _ _ => readA h a (n * size)
  | .slice none _ _ => if n = 0 then some [] else none
  | .string s => if size = 1 ∧ n ≤ s.size then some ((s.extract 0 n).data.toList.map fun b => .int .u8 b.toNat) else none
  | _ => none
def lenV : Value → Option Nat
  | .slice _ n _ => some n
  | .string s => some s.size
  | _ => none

def appendA (P : Program) (lk : Nat) (t : TypeId) (x y : Value) (s : HS) : Option (Value × HS) :=
  match x with
  | .slice base len cap =>
    (elemA P t).bind fun e => (szA P e).bind fun size => (bytesA P e).bind fun by_ => (zeroA P e).bind fun z => (lenV y).bind fun n =>
    if size = 0 ∨ z.cells.toList.length ≠ size ∨ ¬ (len + n) * (by_ + size) ≤ 1099511627776 then none else
    if n = 0 then (if (cap < UNK ∧ len ≤ cap) ∨ (UNK ≤ cap ∧ base.isSome = true) then some (x, s) else none) else
    (firstA s.hp size n y).bind fun new =>
    match base with
    | none =>
      if len = 0 ∧ cap = 0 then
        let (id, s') := newA s e new
        some (.slice (some ⟨id, 0, none⟩) n (UNK + n), s')
      else none
    | some a =>
      if cap < UNK then
        if len + n ≤ cap then
          (writeA lk s.hp ⟨a.block, a.off + len * size, a.spot⟩ new).map fun h => (.slice base (len + n) cap, { s with hp := h })
        else
          (firstA s.hp size len x).map fun old =>
          let (id, s') := newA s e (old ++ new)
          (.slice (some ⟨id, 0, none⟩) (len + n) (UNK + (len + n)), s')
      else if len + n ≤ cap - UNK then
        (writeA lk s.hp ⟨a.block, a.off + len * size, a.spot⟩ new).map fun h => (.slice base (len + n) cap, { s with hp := h })
      else
        (firstA s.hp size len x).bind fun old =>
        match s.hp.get a.block with
        | some (.cells true e' _) =>
          if lk ≤ a.block ∧ e' = e ∧ new.all Value.oneCell' = true then
            let s1 : HS := { s with hp := s.hp.put a.block none }
            let (id, s') := newA s1 e (old ++ new)
            some (.slice (some ⟨id, 0, none⟩) (len + n) (UNK + (len + n)), s')
          else none
        | _ => none
  | _ => none

def copyA (P : Program) (lk : Nat) (t : TypeId) (x y : Value) (s : HS) : Option (Value × HS) :=
  match x with
  | .slice base len _ =>
    (elemA P t).bind fun e => (szA P e).bind fun size => (lenV y).bind fun m =>
    let n := Nat.min m len
    (firstA s.hp size n y).bind fun new =>
    match base with
    | none => some (.int .i64 n, s)
    | some a => if n = 0 then some (.int .i64 n, s) else (writeA lk s.hp a new).map fun h => (.int .i64 n, { s with hp := h })
  | _ => none

def clearA (P : Program) (lk : Nat) (t : TypeId) (x : Value) (s : HS) : Option (Value × HS) :=
  match P.underlying t, x with
  | some (.slice _), .slice none _ _ => some (.tuple #[], s)
  | some (.slice e), .slice (some a) n _ =>
    if n = 0 then some (.tuple #[], s) else
    (zeroA P e).bind fun z => if z.cells.toList.length = 0 then none else (writeA lk s.hp a (zerosL z.cells.toList n)).map fun h => (.tuple #[], { s with hp := h })
  | _, _ => none

def lenA (P : Program) (t : TypeId) (x : Value) (s : HS) : Option Value :=
  match P.underlying t, x with
  | some .string, .string b => some (.int .i64 b.size)
  | some (.array n _), _ => some (.int .i64 n)
  | some (.slice _), .slice _ n _ => some (.int .i64 n)
  | some (.map _ _), .map none => some (.int .i64 0)
  | some (.map _ _), .map (some r) => match s.hp.get r with | some (.map es) => some (.int .i64 es.length) | _ => none
  | _, _ => none

/-! ### Maps with keys of one cell -/
def findA (kind : TypeDesc) (k : Value) : List (Value × Value) → Nat → Option (Option (Nat × Value))
  | [], _ => some none
  | e :: es, i =>
    match Instr.sameNow kind k e.1 with
    | some true => some (some (i, e.2))
    | some false => findA kind k es (i + 1)
    | none => none

def keyOk (kind : TypeDesc) : Bool := match kind with | .int _ | .string | .bool => true | _ => false

def lookupA (P : Program) (t : TypeId) (x k : Value) (ok : Bool) (s : HS) : Option Value :=
  (mapA P t).bind fun (kt, et) => (P.underlying kt).bind fun kind => if keyOk kind then
    match x with
    | .map none => (zeroA P et).map fun z => if ok then .tuple #[z, .bool false] else z
    | .map (some r) =>
      match s.hp.get r with
      | some (.map es) => (findA kind k es 0).bind fun
        | some (_, v) => some (if ok then .tuple #[v, .bool true] else v)
        | none => (zeroA P et).map fun z => if ok then .tuple #[z, .bool false] else z
      | _ => none
    | _ => none
  else none

def mapUpdateA (P : Program) (lk : Nat) (t : TypeId) (m k v : Value) (s : HS) : Option HS :=
  (mapA P t).bind fun (kt, _) => (P.underlying kt).bind fun kind => if keyOk kind then
    match m with
    | .map (some r) => if lk ≤ r then
      match s.hp.get r with
      | some (.map es) => (findA kind k es 0).bind fun
        | some (i, _) => some { s with hp := s.hp.put r (some (.map (es.set i (k, v)))) }
        | none => some { s with hp := s.hp.put r (some (.map (es ++ [(k, v)]))) }
      | _ => none
      else none
    | _ => none
  else none

/-! ### The evaluator -/
structure Rec where
  loop : (lk sz : Nat) → Code → Fr → HS → Option (Sig × Fr × HS)
  call : (lk : Nat) → FuncId → List Value → HS → Option (Value × HS)
  round : (lk l : Nat) → List Value → HS → Option (Value × HS)

def callA (R : Rec) (lk : Nat) (f : Value) (args : List Value) (s : HS) : Option (Value × HS) :=
  match f with
  | .func (.func g) first captured => R.call lk g (first.toList ++ args ++ captured.toList) s
  | .func (.yield l) first captured => if first.toList = [] ∧ captured.toList = [] then R.round lk l args s else none
  | _ => none

def opdA (G : Nat) (fr : Fr) : Operand → Option Value
  | .tmp t => fr.get t
  | .const v => if plainN 3 v then some v else none
  | .global g => if g < G then some (.pointer (some ⟨g, 0, none⟩)) else none
  | .func f => some (.func (.func f) #[] #[])

def opdO (G : Nat) (fr : Fr) : Option Operand → Option (Option Value)
  | none => some none
  | some x => (opdA G fr x).map some

def builtinA (P : Program) (lk : Nat) (b : Builtin) (ts : List TypeId) (args : List Value) (s : HS) : Option (Value × HS) :=
  match b, ts, args with
  | .append, t :: u :: _, x :: y :: _ => match P.underlying u with | some (.int _) => none | some _ => appendA P lk t x y s | none => none
  | .copy, t :: _, x :: y :: _ => copyA P lk t x y s
  | .clear, t :: _, x :: _ => clearA P lk t x s
  | .len, t :: _, x :: _ => (lenA P t x s).map fun v => (v, s)
  | .max, _, [.int k x, .int _ y] => some (.int k (if y > x then y else x), s)
  | .min, _, [.int k x, .int _ y] => some (.int k (if y < x then y else x), s)
  | _, _, _ => none

def val (s : HS) (v : Option Value) : Option (Value × HS) := v.map fun v => (v, s)

def opA (P : Program) (R : Rec) (lk : Nat) (fr : Fr) (s : HS) (o : Oper) : Option (Value × HS) :=
  let e := opdA P.globals.size fr
  match o.op with
  | .move x | .assign x => val s (e x)
  | .pick c a b => (e c).bind fun | .bool t => val s (if t then e a else e b) | _ => none
  | .alloc t => (zeroA P t).bind fun z => (szA P t).map fun _ => let (id, s') := newA s t z.cells.toList; (.pointer (some ⟨id, 0, none⟩), s')
  | .box t x => (e x).bind fun v => (szA P t).map fun _ => let (id, s') := newA s t v.cells.toList; (.pointer (some ⟨id, 0, none⟩), s')
  | .build t ps => (omap (fun (p : Nat × Operand) => (e p.2).map fun v => (p.1, v)) ps.toList).bind fun ps => val s (buildA P t ps)
  | .buildSlice t n ps => (omap (fun (p : Nat × Operand) => (e p.2).map fun v => (p.1, v)) ps.toList).bind fun ps => buildSliceA P t n ps s
  | .load t a => (e a).bind fun a => val s (loadV P s.hp t a)
  | .store t a x => (e a).bind fun a => (e x).bind fun v => (storeV P lk s t a v).map fun s' => (undef, s')
  | .nilCheck x => (e x).bind fun
    | .pointer (some a) => some (.pointer (some a), s)
    | .func (.func g) fi ca => some (.func (.func g) fi ca, s)
    | .func (.yield g) fi ca => some (.func (.yield g) fi ca, s)
    | _ => none
  | .binOp op t x y _ => (e x).bind fun x => (e y).bind fun y => val s (binA P op t x y)
  | .unOp op _ x => (e x).bind fun x => val s (unA op x)
  | .convert a b x => (e x).bind fun x => val s (convA P a b x)
  | .makeFunc (.func g) fi ca => (omap e fi.toList).bind fun fi => (omap e ca.toList).bind fun ca => some (.func (.func g) fi.toArray ca.toArray, s)
  | .makeMap _ none => let s' : HS := { hp := s.hp.put s.nx (some (.map [])), nx := s.nx + 1 }; some (.map (some s.nx), s')
  | .makeSlice t l c => (e l).bind fun l => (e c).bind fun c => makeSliceA P t l c s
  | .slice t x lo hi mx => (e x).bind fun x => (opdO P.globals.size fr lo).bind fun lo => (opdO P.globals.size fr hi).bind fun hi =>
      (opdO P.globals.size fr mx).bind fun mx => val s (sliceA P s.hp t x lo hi mx)
  | .fieldAddr t x f => (e x).bind fun x => val s (fieldAddrA P t x f)
  | .field t x f => (e x).bind fun x => val s (fieldValA P t x f)
  | .indexAddr t x i => (e x).bind fun x => (e i).bind fun i => val s (indexAddrA P t x i)
  | .index t x i => (e x).bind fun x => (e i).bind fun i => val s (indexA P t x i)
  | .lookup t x k ok => (e x).bind fun x => (e k).bind fun k => val s (lookupA P t x k ok s)
  | .mapUpdate t m k v => (e m).bind fun m => (e k).bind fun k => (e v).bind fun v => (mapUpdateA P lk t m k v s).map fun s' => (undef, s')
  | .extract t i => (e t).bind fun | .tuple vs => val s (vs.toList[i]?) | _ => none
  | .call c =>
    (omap e c.args.toList).bind fun args =>
    match c.callee with
    | .builtin b => builtinA P lk b c.argTypes.toList args s
    | .value f => (e f).bind fun f => callA R lk f args s
    | .invoke _ _ => none
  | _ => none

def setA (sz : Nat) (fr : Fr) (d : Option Tmp) (v : Value) : Option Fr :=
  match d with
  | none => some fr
  | some t => if t < sz then some (fr.put t (some v)) else none

/-- Is the operation carried out? -/
def wantedA (ops : List Oper) (fr : Fr) (o : Oper) : Option Bool :=
  match o.guard with
  | none => some true
  | some (j, want) => (ops[j]?).bind fun g => g.dst.bind fun d => (fr.get d).map fun
    | .bool b => b == want
    | _ => false

def stepA (P : Program) (R : Rec) (lk sz : Nat) (ops : List Oper) (fr : Fr) (s : HS) (o : Oper) : Option (Fr × HS) :=
  (wantedA ops fr o).bind fun w =>
  if w then (opA P R lk fr s o).bind fun (v, s') => (setA sz fr o.dst v).map fun fr' => (fr', s')
  else (setA sz fr o.dst undef).map fun fr' => (fr', s)

def opsA (P : Program) (R : Rec) (lk sz : Nat) (ops : List Oper) : List Oper → Fr → HS → Option (Fr × HS)
  | [], fr, s => some (fr, s)
  | o :: os, fr, s => (stepA P R lk sz ops fr s o).bind fun (fr', s') => opsA P R lk sz ops os fr' s'

/-! A region that draws its order. -/
def loudA : Op → Bool
  | .move _ | .assign _ | .pick .. | .build .. | .binOp .. | .unOp .. | .convert .. | .makeFunc .. | .fieldAddr .. | .field .. | .indexAddr .. | .index .. | .extract .. | .nilCheck _ => false
  | _ => true

structure PlanRow where
  /-- it stands in line with all that touches memory: it may write -/
  bar : Bool
  /-- what stands ahead of it in the text, touches memory and may come behind it -/
  beside : List Nat
  /-- a load that no one disturbs, with all such loads -/
  quiet : Option (List Nat)

def isLoad : Op → Bool
  | .load .. => true
  | _ => false
def isApp : Op → Bool
  | .call ⟨.builtin .append, _, _⟩ => true
  | _ => false
/-- A load that may come behind an append that stands behind it in the text; what writes and stands ahead of it comes ahead of it. -/
def quietA (ops : List Oper) (b : Array Nat) (j : Nat) : Bool :=
  ((ops[j]?).any fun o => isLoad o.op && o.guard.isNone) &&
  (((List.range ops.length).any fun i => Nat.blt j i && !(b.getD i 0).testBit j && (ops[i]?).any fun o => isApp o.op) &&
  ((List.range ops.length).all fun k => !(Nat.blt k j) || (b.getD j 0).testBit k || (ops[k]?).all fun o => !loudA o.op || isLoad o.op))
def quietsA (ops : List Oper) (b : Array Nat) : List Nat := (List.range ops.length).filter (quietA ops b)

def rowA (ops : List Oper) (b : Array Nat) (qs : List Nat) (k : Nat) : PlanRow :=
  let loud := (List.range ops.length).filter fun j => ((ops[j]?).any fun o => loudA o.op) && !qs.contains j
  let bar := loud.all fun j => j == k || (b.getD k 0).testBit j || (b.getD j 0).testBit k
  { bar := bar,
    beside := bif (ops[k]?).any (fun o => loudA o.op) then ((loud ++ (bif bar then qs else [])).filter fun j => Nat.blt j k && !(b.getD k 0).testBit j) else [],
    quiet := bif qs.contains k then some qs else none }

/-- May the region be carried out in any order that its edges allow? -/
def drawOk (ops : Array Oper) : Bool :=
  let b := Region.before ops
  ((List.range ops.size).all fun i => (ops[i]?).all fun o =>
    (o.after.all fun e => !Region.binds .any e || Nat.blt e.on i) &&
    (match o.guard with | none => true | some (j, _) => (b.getD i 0).testBit j && Nat.blt j i) &&
    (match o.op with | .select .. => false | _ => true)) &&
  ((List.range ops.size).all fun j => (List.range j).all fun i => (b.getD j 0).testBit i ||
    ((ops[i]?).all fun x => (ops[j]?).all fun y => x.apart ops y))

def planA (ops : Array Oper) : Option (List PlanRow) :=
  if drawOk ops then some ((List.range ops.size).map (rowA ops.toList (Region.before ops) (quietsA ops.toList (Region.before ops)))) else none

/-- The heap without the blocks of some intervals. -/
def hideA (h : T AObj) : List (Nat × Nat) → T AObj
  | [] => h
  | (lo, hi) :: r => hideA ((List.range (hi - lo)).foldl (fun h i => h.put (lo + i) none) h) r
/-- The heap h with the blocks of some intervals as they lie in g. -/
def unhideA (g h : T AObj) : List (Nat × Nat) → T AObj
  | [] => h
  | (lo, hi) :: r => unhideA g ((List.range (hi - lo)).foldl (fun h i => h.put (lo + i) (g.get (lo + i))) h) r

/-- The block that a load reads. -/
def loadBlk (G : Nat) (fr : Fr) (o : Oper) : Option Nat :=
  match o.op with
  | .load _ a => match opdA G fr a with | some (.pointer (some ad)) => some ad.block | _ => none
  | _ => none
/-- A load that no one disturbs is noted with its block, which is none of the region's own. -/
def noteA (G : Nat) (p : PlanRow) (k : Nat) (fr : Fr) (o : Oper) (made : List (Nat × Nat × Nat)) : Option (List (Nat × Nat × Nat)) :=
  match p.quiet with
  | none => some made
  | some qs => (loadBlk G fr o).bind fun b => if made.all (fun m => qs.contains m.1 || !(Nat.ble m.2.1 b && Nat.blt b m.2.2)) = true then some ((k, b, b + 1) :: made) else none

/-- made: which operation has made which blocks; which block a load reads that no one may disturb. -/
def drawA (P : Program) (R : Rec) (lk sz : Nat) (ops : List Oper) : List Oper → List PlanRow → Nat → List (Nat × Nat × Nat) → Fr → HS → Option (Fr × HS)
  | o :: os, p :: ps, k, made, fr, s =>
    let bad := (made.filter fun m => p.beside.contains m.1).map (·.2)
    let s0 : HS := match bad with | [] => s | _ => { s with hp := hideA s.hp bad }
    (stepA P R (if p.bar then lk else s.nx) sz ops fr s0 o).bind fun (fr', s1) =>
    let s' : HS := match bad with | [] => s1 | _ => { s1 with hp := unhideA s.hp s1.hp bad }
    (noteA P.globals.size p k fr o (if s.nx < s'.nx then (k, s.nx, s'.nx) :: made else made)).bind fun made' =>
    drawA P R lk sz ops os ps (k + 1) made' fr' s'
  | [], [], _, _, fr, s => some (fr, s)
  | _, _, _, _, _, _ => none

def codeA (P : Program) (R : Rec) (lk sz : Nat) : Code → Fr → HS → Option (Sig × Fr × HS)
  | .skip, fr, s => some (.normal, fr, s)
  | .label _, fr, s => some (.normal, fr, s)
  | .region _ ops false, fr, s => (opsA P R lk sz ops.toList ops.toList fr s).map fun (fr', s') => (.normal, fr', s')
  | .region _ ops true, fr, s => (planA ops).bind fun pl => (drawA P R lk sz ops.toList ops.toList pl 0 [] fr s).map fun (fr', s') => (.normal, fr', s')
  | .seq a b, fr, s => (codeA P R lk sz a fr s).bind fun
    | (.normal, fr', s') => codeA P R lk sz b fr' s'
    | r => some r
  | .cond c a b, fr, s => (opdA P.globals.size fr c).bind fun
    | .bool t => if t then codeA P R lk sz a fr s else codeA P R lk sz b fr s
    | _ => none
  | .block id c, fr, s => (codeA P R lk sz c fr s).map fun
    | (.exit i, fr', s') => if i = id then (.normal, fr', s') else (.exit i, fr', s')
    | r => r
  | .loop c, fr, s => R.loop lk sz c fr s
  | .exit id, fr, s => some (.exit id, fr, s)
  | .ret, fr, s => some (.ret, fr, s)
  | .rangeFunc f ps assign body, fr, s =>
    (opdA P.globals.size fr f).bind fun fv =>
    let s1 : HS := { hp := s.hp.put s.nx (some (.loop { fr, sz, params := ps, assign, body, state := .ready, pending := none })), nx := s.nx + 1 }
    (match fv with | .func (.func g) fi ca => R.call lk g (fi.toList ++ [Value.func (Fn.yield s.nx) #[] #[]] ++ ca.toList) s1 | _ => none).bind fun (_, s2) =>
    match s2.hp.get s.nx with
    | some (.loop L) =>
      let s3 : HS := { s2 with hp := s2.hp.put s.nx none }
      match L.state, L.pending with
      | .busy, _ => none
      | _, none => some (.normal, fr, s3)
      | _, some .ret => some (.ret, fr, s3)
      | _, some (.exit id) => some (.exit id, fr, s3)
      | _, _ => none
    | _ => none
  | _, _, _ => none

def resA (P : Program) (fr : Fr) (h : T AObj) : ResultVar → Option Value
  | .tmp t => fr.get t
  | .cell a t => (fr.get a).bind (loadV P h t)

def packR (vs : List Value) : Value := match vs with | [v] => v | vs => .tuple vs.toArray

def paramsA (fr : Fr) : List Value → Nat → Fr
  | [], _ => fr
  | v :: vs, i => paramsA (fr.put i (some v)) vs (i + 1)

def callFA (P : Program) (R : Rec) (lk : Nat) (f : FuncId) (args : List Value) (s : HS) : Option (Value × HS) :=
  match P.funcs[f]? with
  | none => none
  | some fn =>
    match fn.body with
    | none => none
    | some c =>
      if fn.name = "runtime.NumGoroutine" ∨ fn.ntmps < args.length then none else
      (codeA P R lk fn.ntmps c (paramsA .nil args 0) s).bind fun
        | (.exit _, _, _) => none
        | (_, fr, s') => (omap (resA P fr s'.hp) fn.results.toList).map fun vs => (packR vs, s')

def parA (fr : Fr) (sz : Nat) : List (Tmp × Value) → Option Fr
  | [] => some fr
  | (t, v) :: r => if t < sz then parA (fr.put t (some v)) sz r else none

def loopAt (h : T AObj) (l : Nat) : Option ALoop := match h.get l with | some (.loop L) => some L | _ => none

def roundFA (P : Program) (R : Rec) (lk l : Nat) (args : List Value) (s : HS) : Option (Value × HS) :=
  if ¬ lk ≤ l then none else
  (loopAt s.hp l).bind fun L =>
  if args.length ≠ L.params.toList.length then none else
  (parA L.fr L.sz (L.params.toList.zip args)).bind fun fr =>
  (codeA P R lk L.sz L.assign fr s).bind fun
    | (.normal, fr1, s1) =>
      (loopAt s1.hp l).bind fun L1 =>
      match L1.state with
      | .ready =>
        (codeA P R lk L.sz L.body fr1 { s1 with hp := s1.hp.put l (some (.loop { L1 with state := .busy })) }).bind fun (sig, _, s2) =>
        (loopAt s2.hp l).bind fun L2 =>
        match sig with
        | .normal => some (.bool true, { s2 with hp := s2.hp.put l (some (.loop { L2 with state := .ready, pending := none })) })
        | .ret => some (.bool false, { s2 with hp := s2.hp.put l (some (.loop { L2 with state := .done, pending := some .ret })) })
        | .exit id => some (.bool false, { s2 with hp := s2.hp.put l (some (.loop { L2 with state := .done, pending := some (.exit id) })) })
      | _ => none
    | _ => none

def loopFA (P : Program) (R : Rec) (lk sz : Nat) (c : Code) (fr : Fr) (s : HS) : Option (Sig × Fr × HS) :=
  (codeA P R lk sz c fr s).bind fun
    | (.normal, fr', s') => R.loop lk sz c fr' s'
    | r => some r

/-- One level more of calls, rounds and loops. -/
def nextR (P : Program) (R : Rec) : Rec := { loop := fun lk sz c fr s => loopFA P R lk sz c fr s, call := fun lk f ars s => callFA P R lk f ars s, round := fun lk l ars s => roundFA P R lk l ars s }
/-- The evaluator by itself. -/
def ev0 (P : Program) : Nat → Rec
  | 0 => { loop := fun _ _ _ _ _ => none, call := fun _ _ _ _ => none, round := fun _ _ _ _ => none }
  | n + 1 => nextR P (ev0 P n)

end Go.Ev

/- How the clean state and the model's world go together. -/
namespace Go.Ev
open Go

/-- Where a clean block lies: the block, from which cell on, how many cells, how many an element has. -/
structure Img where
  blk : Nat
  sh : Nat
  ext : Nat
  esz : Nat
abbrev Inj := Nat → Option Img

inductive FnR (φ : Inj) : Fn → Fn → Prop
  | func (f) : FnR φ (.func f) (.func f)
  | yield (l im) (h : φ l = some im) : FnR φ (.yield l) (.yield im.blk)

inductive VR (φ : Inj) : Value → Value → Prop
  | bool (b) : VR φ (.bool b) (.bool b)
  | int (k n) : VR φ (.int k n) (.int k n)
  | float (k n) : VR φ (.float k n) (.float k n)
  | complex (k a b) : VR φ (.complex k a b) (.complex k a b)
  | string (s) : VR φ (.string s) (.string s)
  | nilptr : VR φ (.pointer none) (.pointer none)
  | ptr (id off im) (h : φ id = some im) : VR φ (.pointer (some ⟨id, off, none⟩)) (.pointer (some ⟨im.blk, im.sh + off, none⟩))
  | nilslice (l c) : VR φ (.slice none l c) (.slice none l c)
  | slice (id off len cap im) (h : φ id = some im) (hc : cap < UNK) : VR φ (.slice (some ⟨id, off, none⟩) len cap) (.slice (some ⟨im.blk, im.sh + off, none⟩) len cap)
  | sliceU (id off len cap cap' im) (h : φ id = some im) (hc : UNK ≤ cap) (h1 : cap - UNK ≤ cap') (h2 : len ≤ cap') (h3 : off + cap' * im.esz ≤ im.ext) :
      VR φ (.slice (some ⟨id, off, none⟩) len cap) (.slice (some ⟨im.blk, im.sh + off, none⟩) len cap')
  | sliceE (id off o' im) (h : φ id = some im) : VR φ (.slice (some ⟨id, off, none⟩) 0 UNK) (.slice (some ⟨im.blk, o', none⟩) 0 0)
  | nilmap : VR φ (.map none) (.map none)
  | map (r im) (h : φ r = some im) : VR φ (.map (some r)) (.map (some im.blk))
  | nilchan : VR φ (.chan none) (.chan none)
  | func (fn fn' fi fi' ca ca') (hf : FnR φ fn fn') (s1 : fi.size = fi'.size) (h1 : ∀ (i : Nat) (v v' : Value), fi[i]? = some v → fi'[i]? = some v' → VR φ v v')
      (s2 : ca.size = ca'.size) (h2 : ∀ (i : Nat) (v v' : Value), ca[i]? = some v → ca'[i]? = some v' → VR φ v v') : VR φ (.func fn fi ca) (.func fn' fi' ca')
  | nilFunc : VR φ .nilFunc .nilFunc
  | nilIface : VR φ .nilIface .nilIface
  | iface (t v v') (h : VR φ v v') : VR φ (.iface t v) (.iface t v')
  | agg (cs ds) (s : cs.size = ds.size) (h : ∀ (i : Nat) (v v' : Value), cs[i]? = some v → ds[i]? = some v' → VR φ v v') : VR φ (.agg cs) (.agg ds)
  | tuple (cs ds) (s : cs.size = ds.size) (h : ∀ (i : Nat) (v v' : Value), cs[i]? = some v → ds[i]? = some v' → VR φ v v') : VR φ (.tuple cs) (.tuple ds)

def LR (φ : Inj) (xs ys : List Value) : Prop := xs.length = ys.length ∧ ∀ (i : Nat) (v v' : Value), xs[i]? = some v → ys[i]? = some v' → VR φ v v'

def Sub (φ φ' : Inj) : Prop := ∀ id im, φ id = some im → φ' id = some im
theorem Sub.refl (φ : Inj) : Sub φ φ := fun _ _ h => h
theorem Sub.trans {φ φ' φ'' : Inj} (h : Sub φ φ') (h' : Sub φ' φ'') : Sub φ φ'' := fun id im e => h' id im (h id im e)

theorem FnR.mono {φ φ' : Inj} (h : Sub φ φ') {f g : Fn} (r : FnR φ f g) : FnR φ' f g := by
  cases r with
  | func f => exact .func f
  | yield l im e => exact .yield l im (h _ _ e)

theorem VR.mono {φ φ' : Inj} (h : Sub φ φ') {v v' : Value} (r : VR φ v v') : VR φ' v v' := by
  induction r with
  | bool b => exact .bool b
  | int k n => exact .int k n
  | float k n => exact .float k n
  | complex k a b => exact .complex k a b
  | string s => exact .string s
  | nilptr => exact .nilptr
  | ptr id off im e => exact .ptr id off im (h _ _ e)
  | nilslice l c => exact .nilslice l c
  | slice id off len cap im e hc => exact .slice id off len cap im (h _ _ e) hc
  | sliceU id off len cap cap' im e hc h1 h2 h3 => exact .sliceU id off len cap cap' im (h _ _ e) hc h1 h2 h3
  | sliceE id off o' im e => exact .sliceE id off o' im (h _ _ e)
  | nilmap => exact .nilmap
  | map r im e => exact .map r im (h _ _ e)
  | nilchan => exact .nilchan
  | func fn fn' fi fi' ca ca' hf s1 h1 s2 h2 ih1 ih2 => exact .func _ _ _ _ _ _ (hf.mono h) s1 ih1 s2 ih2
  | nilFunc => exact .nilFunc
  | nilIface => exact .nilIface
  | iface t v v' _ ih => exact .iface t v v' ih
  | agg cs ds s _ ih => exact .agg cs ds s ih
  | tuple cs ds s _ ih => exact .tuple cs ds s ih

theorem LR.mono {φ φ' : Inj} (h : Sub φ φ') {xs ys : List Value} (r : LR φ xs ys) : LR φ' xs ys := ⟨r.1, fun i v v' a b => (r.2 i v v' a b).mono h⟩

theorem LR.nil (φ : Inj) : LR φ [] [] := ⟨rfl, fun i v v' h => by simp at h⟩
theorem LR.cons {φ : Inj} {x y : Value} {xs ys : List Value} (h : VR φ x y) (hs : LR φ xs ys) : LR φ (x :: xs) (y :: ys) := by
  refine ⟨by simp [hs.1], fun i v v' a b => ?_⟩
  cases i with
  | zero => simp at a b; subst a b; exact h
  | succ i => simp at a b; exact hs.2 i v v' a b
theorem LR.head {φ : Inj} {x y : Value} {xs ys : List Value} (h : LR φ (x :: xs) (y :: ys)) : VR φ x y := h.2 0 x y rfl rfl
theorem LR.tail {φ : Inj} {x y : Value} {xs ys : List Value} (h : LR φ (x :: xs) (y :: ys)) : LR φ xs ys :=
  ⟨by simpa using h.1, fun i v v' a b => h.2 (i + 1) v v' (by simpa using a) (by simpa using b)⟩
theorem LR.nil_inv {φ : Inj} {ys : List Value} (h : LR φ [] ys) : ys = [] := by
  have := h.1; cases ys with
  | nil => rfl
  | cons y ys => simp at this
theorem LR.cons_inv {φ : Inj} {x : Value} {xs ys : List Value} (h : LR φ (x :: xs) ys) : ∃ y ys', ys = y :: ys' ∧ VR φ x y ∧ LR φ xs ys' := by
  cases ys with
  | nil => have := h.1; simp at this
  | cons y ys => exact ⟨y, ys, rfl, h.head, h.tail⟩
theorem LR.append {φ : Inj} {xs ys us vs : List Value} (h : LR φ xs ys) (k : LR φ us vs) : LR φ (xs ++ us) (ys ++ vs) := by
  refine ⟨by simp [h.1, k.1], fun i v v' a b => ?_⟩
  by_cases hi : i < xs.length
  · rw [List.getElem?_append_left hi] at a
    rw [List.getElem?_append_left (h.1 ▸ hi)] at b
    exact h.2 i v v' a b
  · rw [List.getElem?_append_right (by omega)] at a
    rw [List.getElem?_append_right (by have := h.1; omega)] at b
    exact k.2 (i - xs.length) v v' a (by rw [h.1]; exact b)
theorem LR.get {φ : Inj} {xs ys : List Value} (h : LR φ xs ys) {i : Nat} {v : Value} (e : xs[i]? = some v) : ∃ v', ys[i]? = some v' ∧ VR φ v v' := by
  have hi : i < ys.length := by
    have := (List.getElem?_eq_some_iff.1 e).1
    have := h.1; omega
  exact ⟨ys[i], List.getElem?_eq_getElem hi, h.2 i v _ e (List.getElem?_eq_getElem hi)⟩
theorem LR.get_none {φ : Inj} {xs ys : List Value} (h : LR φ xs ys) {i : Nat} (e : xs[i]? = none) : ys[i]? = none := by
  have := h.1; rw [List.getElem?_eq_none_iff] at *; omega
theorem LR.take {φ : Inj} {xs ys : List Value} (h : LR φ xs ys) (n : Nat) : LR φ (xs.take n) (ys.take n) := by
  refine ⟨by simp [h.1], fun i v v' a b => ?_⟩
  rw [List.getElem?_take] at a b
  split at a
  · rename_i hi; rw [if_pos hi] at b; exact h.2 i v v' a b
  · simp at a
theorem LR.drop {φ : Inj} {xs ys : List Value} (h : LR φ xs ys) (n : Nat) : LR φ (xs.drop n) (ys.drop n) := by
  refine ⟨by simp [h.1], fun i v v' a b => ?_⟩
  rw [List.getElem?_drop] at a b
  exact h.2 _ v v' a b
theorem LR.of_arrays {φ : Inj} {cs ds : Array Value} (s : cs.size = ds.size) (h : ∀ (i : Nat) (v v' : Value), cs[i]? = some v → ds[i]? = some v' → VR φ v v') : LR φ cs.toList ds.toList :=
  ⟨by simpa using s, fun i v v' a b => h i v v' (by simpa using a) (by simpa using b)⟩
theorem VR.agg' {φ : Inj} {xs ys : List Value} (h : LR φ xs ys) : VR φ (.agg xs.toArray) (.agg ys.toArray) :=
  .agg _ _ (by simpa using h.1) (fun i v v' a b => h.2 i v v' (by simpa using a) (by simpa using b))
theorem VR.tuple' {φ : Inj} {xs ys : List Value} (h : LR φ xs ys) : VR φ (.tuple xs.toArray) (.tuple ys.toArray) :=
  .tuple _ _ (by simpa using h.1) (fun i v v' a b => h.2 i v v' (by simpa using a) (by simpa using b))

theorem VR.cells {φ : Inj} {v v' : Value} (h : VR φ v v') : LR φ v.cells.toList v'.cells.toList := by
  have h0 := h
  cases h with
  | agg cs ds s h => exact LR.of_arrays s h
  | _ => exact LR.cons h0 (LR.nil φ)

theorem VR.one {φ : Inj} {v v' : Value} (h : VR φ v v') : v'.oneCell' = v.oneCell' := by cases h <;> rfl

theorem VR.plain {φ : Inj} : ∀ (n : Nat) (v : Value), plainN n v = true → VR φ v v := by
  intro n
  induction n with
  | zero =>
    intro v h
    cases v with
    | bool b => exact .bool b
    | int k n => exact .int k n
    | float k n => exact .float k n
    | complex k a b => exact .complex k a b
    | string s => exact .string s
    | pointer a => cases a with | none => exact .nilptr | some a => simp [plainN] at h
    | slice a l c => cases a with | none => exact .nilslice l c | some a => simp [plainN] at h
    | map r => cases r with | none => exact .nilmap | some r => simp [plainN] at h
    | chan r => cases r with | none => exact .nilchan | some r => simp [plainN] at h
    | func f a b => simp [plainN] at h
    | nilFunc => exact .nilFunc
    | iface t v => simp [plainN] at h
    | nilIface => exact .nilIface
    | agg cs => simp [plainN] at h
    | tuple cs => simp [plainN] at h
  | succ n ih =>
    intro v h
    have key : ∀ cs : Array Value, cs.toList.all (plainN n) = true → ∀ (i : Nat) (v v' : Value), cs[i]? = some v → cs[i]? = some v' → VR φ v v' := by
      intro cs hc i v v' a b
      rw [a] at b; cases b
      refine ih v ?_
      rw [List.all_eq_true] at hc
      exact hc v (by simpa using Array.mem_of_getElem? a)
    cases v with
    | bool b => exact .bool b
    | int k n => exact .int k n
    | float k n => exact .float k n
    | complex k a b => exact .complex k a b
    | string s => exact .string s
    | pointer a => cases a with | none => exact .nilptr | some a => simp [plainN] at h
    | slice a l c => cases a with | none => exact .nilslice l c | some a => simp [plainN] at h
    | map r => cases r with | none => exact .nilmap | some r => simp [plainN] at h
    | chan r => cases r with | none => exact .nilchan | some r => simp [plainN] at h
    | func f a b => simp [plainN] at h
    | nilFunc => exact .nilFunc
    | iface t v => exact .iface t v v (ih v (by simpa [plainN] using h))
    | nilIface => exact .nilIface
    | agg cs => exact .agg cs cs rfl (key cs (by simpa [plainN] using h))
    | tuple cs => exact .tuple cs cs rfl (key cs (by simpa [plainN] using h))

/-! ### Memory -/
/-- The clean frame and the model's temporaries. -/
def FrR (φ : Inj) (sz : Nat) (fr : Fr) (tmps : Array Value) : Prop := tmps.size = sz ∧ ∀ t v, fr.get t = some v → ∃ v', tmps[t]? = some v' ∧ VR φ v v'

theorem FrR.mono {φ φ' : Inj} (h : Sub φ φ') {sz : Nat} {fr : Fr} {tmps : Array Value} (r : FrR φ sz fr tmps) : FrR φ' sz fr tmps :=
  ⟨r.1, fun t v e => let ⟨v', a, b⟩ := r.2 t v e; ⟨v', a, b.mono h⟩⟩

theorem FrR.put {φ : Inj} {sz : Nat} {fr : Fr} {tmps : Array Value} (r : FrR φ sz fr tmps) {t : Nat} {v v' : Value} (ht : t < sz) (h : VR φ v v') :
    FrR φ sz (fr.put t (some v)) (tmps.setIfInBounds t v') := by
  refine ⟨by simp [r.1], fun u x e => ?_⟩
  rw [T.get_put] at e
  by_cases hu : u = t
  · subst hu; rw [if_pos rfl] at e; cases e
    exact ⟨v', by rw [Array.getElem?_setIfInBounds_self_of_lt (by rw [r.1]; exact ht)], h⟩
  · rw [if_neg hu] at e
    obtain ⟨x', a, b⟩ := r.2 u x e
    exact ⟨x', by rw [Array.getElem?_setIfInBounds_ne (Ne.symm hu)]; exact a, b⟩

def LoopR (φ : Inj) (L : ALoop) (r : Loop) : Prop :=
  r.state = L.state ∧ r.pending = L.pending ∧ r.params = L.params ∧ r.assign = L.assign ∧ r.body = L.body ∧ FrR φ L.sz L.fr r.tmps

/-- What a block of the heap holds, seen as a clean object. -/
def OR (P : Program) (φ : Inj) (im : Img) (ob : Option Obj) : AObj → Prop
  | .cells wr e cs => szA P e = some im.esz ∧ ∃ c fz, ob = some (.cells c e fz) ∧ im.sh + im.ext = c.size ∧ cs.length ≤ im.ext ∧
      (∀ (i : Nat) (v : Value), cs[i]? = some v → ∃ v', c[im.sh + i]? = some v' ∧ VR φ v v') ∧ (wr = true → ∀ j, im.sh ≤ j → ¬ (fz.1 ≤ j ∧ j < fz.2))
  | .map es => ∃ es' clock, ob = some (.map es' clock) ∧ es'.size = es.length ∧ ∀ (i : Nat) k v, es[i]? = some (k, v) → ∃ e : MapEntry, es'[i]? = some e ∧ VR φ k e.key ∧ VR φ v e.val
  | .loop L => ∃ r, ob = some (.loop r) ∧ LoopR φ L r

theorem OR.mono {P : Program} {φ φ' : Inj} (h : Sub φ φ') {im : Img} {ob : Option Obj} {o : AObj} (r : OR P φ im ob o) : OR P φ' im ob o := by
  cases o with
  | cells wr e cs =>
    obtain ⟨h0, c, fz, h1, h2, h3, h4, h5⟩ := r
    exact ⟨h0, c, fz, h1, h2, h3, fun i v e => let ⟨v', a, b⟩ := h4 i v e; ⟨v', a, b.mono h⟩, h5⟩
  | map es =>
    obtain ⟨es', clock, h1, h2, h3⟩ := r
    exact ⟨es', clock, h1, h2, fun i k v e => let ⟨x, a, b, c⟩ := h3 i k v e; ⟨x, a, b.mono h, c.mono h⟩⟩
  | loop L =>
    obtain ⟨r, h1, a, b, c, d, e, f⟩ := r
    exact ⟨r, h1, a, b, c, d, e, f.mono h⟩

/-- May a block be written? -/
def wrO : AObj → Bool
  | .cells wr _ _ => wr
  | _ => true
def Wr (h : Nat → Option AObj) (id : Nat) : Prop := ∃ o, h id = some o ∧ wrO o = true
theorem Wr.ne {h : Nat → Option AObj} {id : Nat} (w : Wr h id) : h id ≠ none := by obtain ⟨o, h1, _⟩ := w; rw [h1]; simp
theorem Wr.of_eq {h g : Nat → Option AObj} {id : Nat} (e : h id = g id) (w : Wr h id) : Wr g id := by obtain ⟨o, h1, h2⟩ := w; exact ⟨o, by rw [← e]; exact h1, h2⟩

/-- The blocks h (names below nx) and the model's heap. Blocks that may not be written may lie in one. -/
structure HRF (P : Program) (φ : Inj) (h : Nat → Option AObj) (nx : Nat) (w : World) : Prop where
  obj : ∀ id o, h id = some o → ∃ im, φ id = some im ∧ OR P φ im (w.heap[im.blk]?) o
  inj : ∀ i j oi oj mi mj, h i = some oi → h j = some oj → φ i = some mi → φ j = some mj → i ≠ j → (wrO oi = true ∨ wrO oj = true) → mi.blk ≠ mj.blk
  bnd : ∀ id o, h id = some o → id < nx
  glob : ∀ g, g < P.globals.size → ∃ im, φ g = some im ∧ im.blk = g ∧ im.sh = 0
  nxg : P.globals.size ≤ nx

abbrev HR (P : Program) (φ : Inj) (s : HS) (w : World) : Prop := HRF P φ s.hp.get s.nx w

theorem HR.lt {P : Program} {φ : Inj} {s : HS} {w : World} (h : HR P φ s w) {id : Nat} {o : AObj} {im : Img} (e : s.hp.get id = some o) (hi : φ id = some im) : im.blk < w.heap.size := by
  obtain ⟨im', h1, h2⟩ := h.obj id o e
  rw [hi] at h1; cases h1
  have : ∃ x, w.heap[im.blk]? = some x := by
    cases o with
    | cells wr e cs => obtain ⟨_, c, fz, h1, _⟩ := h2; exact ⟨_, h1⟩
    | map es => obtain ⟨es', clock, h1, _⟩ := h2; exact ⟨_, h1⟩
    | loop L => obtain ⟨r, h1, _⟩ := h2; exact ⟨_, h1⟩
  obtain ⟨x, hx⟩ := this
  exact (Array.getElem?_eq_some_iff.1 hx).1

/-- What a run may have done. lk: the blocks below it are left alone. -/
structure Post (P : Program) (φ : Inj) (lk : Nat) (s : HS) (w : World) (φ' : Inj) (s' : HS) (w' : World) : Prop where
  ext : Sub φ φ'
  out : ∀ id, id < s.nx ∨ s'.nx ≤ id → φ' id = φ id
  rel : HR P φ' s' w'
  nx : s.nx ≤ s'.nx
  live : ∀ id, id < s.nx → s'.hp.get id ≠ none → s.hp.get id ≠ none
  livw : ∀ id, id < s.nx → Wr s'.hp.get id → Wr s.hp.get id
  lock : ∀ id, id < lk → s'.hp.get id = s.hp.get id
  keep : ∀ id L, s.hp.get id = some (.loop L) → ∃ L', s'.hp.get id = some (.loop L')
  os : w'.os = w.os
  tape : w'.tape = w.tape
  output : w'.output = w.output
  drawn : w.drawn ≤ w'.drawn
  size : w.heap.size ≤ w'.heap.size
  frame : ∀ r, r < w.heap.size → (∀ id im, lk ≤ id → Wr s.hp.get id → φ id = some im → im.blk ≠ r) → w'.heap[r]? = w.heap[r]?
  news : ∀ id im, s.nx ≤ id → s'.hp.get id ≠ none → φ' id = some im → w.heap.size ≤ im.blk ∨ ∃ i0 m0, lk ≤ i0 ∧ Wr s.hp.get i0 ∧ φ i0 = some m0 ∧ m0.blk = im.blk

theorem Post.refl {P : Program} {φ : Inj} {lk : Nat} {s : HS} {w : World} (h : HR P φ s w) : Post P φ lk s w φ s w where
  ext := Sub.refl φ
  out := fun _ _ => rfl
  rel := h
  nx := Nat.le_refl _
  live := fun _ _ h => h
  livw := fun _ _ h => h
  lock := fun _ _ => rfl
  keep := fun _ L h => ⟨L, h⟩
  os := rfl
  tape := rfl
  output := rfl
  drawn := Nat.le_refl _
  size := Nat.le_refl _
  frame := fun _ _ _ => rfl
  news := fun id im h1 h2 _ => by
    obtain ⟨o, ho⟩ := Option.ne_none_iff_exists'.1 h2
    have := h.bnd id o ho; omega

theorem Post.trans {P : Program} {φ φ1 φ2 : Inj} {lk : Nat} {s s1 s2 : HS} {w w1 w2 : World} (h : Post P φ lk s w φ1 s1 w1) (k : Post P φ1 lk s1 w1 φ2 s2 w2) :
    Post P φ lk s w φ2 s2 w2 where
  ext := h.ext.trans k.ext
  out := fun id hid => by
    have a := h.nx; have b := k.nx
    rw [k.out id (by omega), h.out id (by omega)]
  rel := k.rel
  nx := Nat.le_trans h.nx k.nx
  live := fun id h1 h2 => h.live id h1 (k.live id (Nat.lt_of_lt_of_le h1 h.nx) h2)
  livw := fun id h1 h2 => h.livw id h1 (k.livw id (Nat.lt_of_lt_of_le h1 h.nx) h2)
  lock := fun id hid => (k.lock id hid).trans (h.lock id hid)
  keep := fun id L e => by
    obtain ⟨L1, e1⟩ := h.keep id L e
    exact k.keep id L1 e1
  os := k.os.trans h.os
  tape := k.tape.trans h.tape
  output := k.output.trans h.output
  drawn := Nat.le_trans h.drawn k.drawn
  size := Nat.le_trans h.size k.size
  frame := fun r hr hno => by
    refine (k.frame r (Nat.lt_of_lt_of_le hr h.size) fun id im h1 h2 h3 => ?_).trans (h.frame r hr hno)
    by_cases hid : id < s.nx
    · refine hno id im h1 (h.livw id hid h2) ?_
      rw [← h.out id (Or.inl hid)]; exact h3
    · rcases h.news id im (by omega) h2.ne h3 with hge | ⟨i0, m0, a, b, c, d⟩
      · omega
      · rw [← d]; exact hno i0 m0 a b c
  news := fun id im h1 h2 h3 => by
    by_cases hid : id < s1.nx
    · have h2' := k.live id hid h2
      have h3' : φ1 id = some im := by rw [← k.out id (Or.inl hid)]; exact h3
      exact h.news id im h1 h2' h3'
    · rcases k.news id im (by omega) h2 h3 with hge | ⟨i0, m0, a, b, c, d⟩
      · exact Or.inl (Nat.le_trans h.size hge)
      · by_cases hi0 : i0 < s.nx
        · exact Or.inr ⟨i0, m0, a, h.livw i0 hi0 b, by rw [← h.out i0 (Or.inl hi0)]; exact c, d⟩
        · rcases h.news i0 m0 (by omega) b.ne c with hge | ⟨i1, m1, a1, b1, c1, d1⟩
          · exact Or.inl (by rw [← d]; exact hge)
          · exact Or.inr ⟨i1, m1, a1, b1, c1, d1.trans d⟩

/-- No name of the interval is taken. -/
def Fresh (φ : Inj) (a b : Nat) : Prop := ∀ id, a ≤ id → id < b → φ id = none

theorem Fresh.left {φ : Inj} {a b c : Nat} (h : Fresh φ a c) (hb : b ≤ c) : Fresh φ a b := fun id h1 h2 => h id h1 (by omega)
theorem Fresh.after {P : Program} {φ φ1 : Inj} {lk : Nat} {s s1 : HS} {w w1 : World} {c : Nat} (h : Fresh φ s.nx c) (k : Post P φ lk s w φ1 s1 w1) : Fresh φ1 s1.nx c :=
  fun id h1 h2 => by rw [k.out id (Or.inr h1)]; exact h id (Nat.le_trans k.nx h1) h2

end Go.Ev

/- What the clean memory's operations are in the model's world. -/
namespace Go.Ev
open Go
variable {P : Program} {φ : Inj} {lk : Nat} {s : HS} {w : World}

theorem addr_add (b o j : Nat) : (⟨b, o, none⟩ : Addr).add j = ⟨b, o + j, none⟩ := by
  unfold Addr.add
  split
  · rename_i h; subst h; rfl
  · rfl

theorem cutL_inv {cs : List Value} {off n : Nat} {vs : List Value} (h : cutL cs off n = some vs) : off + n ≤ cs.length ∧ vs = (cs.drop off).take n := by
  unfold cutL at h; split at h
  · rename_i hl; cases h; exact ⟨hl, rfl⟩
  · cases h
theorem cutL_length {cs : List Value} {off n : Nat} {vs : List Value} (h : cutL cs off n = some vs) : vs.length = n := by
  obtain ⟨h1, rfl⟩ := cutL_inv h; simp; omega

theorem readA_inv {hp : T AObj} {a : Addr} {n : Nat} {vs : List Value} (h : readA hp a n = some vs) :
    a.spot = none ∧ ∃ wr e cs, hp.get a.block = some (.cells wr e cs) ∧ cutL cs a.off n = some vs := by
  unfold readA at h; split at h
  · rename_i wr e cs h1 h2; exact ⟨h1, wr, e, cs, h2, h⟩
  · cases h

theorem getElem?_drop_take {l : List Value} {a n j : Nat} (hj : j < n) : ((l.drop a).take n)[j]? = l[a + j]? := by
  rw [List.getElem?_take, if_pos hj, List.getElem?_drop]

theorem readA_sound (H : HR P φ s w) {a : Addr} {n : Nat} {vs : List Value} (h : readA s.hp a n = some vs) {im : Img} (hφ : φ a.block = some im) :
    ∃ vs', LR φ vs vs' ∧ vs'.length = n ∧ ∀ (j : Nat) (v : Value), vs'[j]? = some v → w.cell? ⟨im.blk, im.sh + a.off + j, none⟩ = some v := by
  obtain ⟨_, wr, e, cs, hg, hc⟩ := readA_inv h
  obtain ⟨hl, rfl⟩ := cutL_inv hc
  obtain ⟨im', h1, h2⟩ := H.obj _ _ hg
  rw [hφ] at h1; cases h1
  obtain ⟨_, c, fz, h3, h4, h5, h6, _⟩ := h2
  refine ⟨(c.toList.drop (im.sh + a.off)).take n, ⟨?_, fun i v v' a1 b1 => ?_⟩, ?_, fun j v hj => ?_⟩
  · simp; omega
  · have hi : i < n := by have := (List.getElem?_eq_some_iff.1 a1).1; simp at this; omega
    rw [getElem?_drop_take hi] at a1 b1
    obtain ⟨x, hx, hv⟩ := h6 _ _ a1
    rw [Array.getElem?_toList, show im.sh + a.off + i = im.sh + (a.off + i) by omega, hx] at b1
    cases b1; exact hv
  · simp; omega
  · have hi : j < n := by have := (List.getElem?_eq_some_iff.1 hj).1; simp at this; omega
    rw [getElem?_drop_take hi, Array.getElem?_toList] at hj
    simp only [World.cell?, h3]; simpa using hj

theorem run_load_row (P : Program) (w : World) (b o : Nat) (vs : List Value) (h : ∀ (j : Nat) (v : Value), vs[j]? = some v → w.cell? ⟨b, o + j, none⟩ = some v) :
    (loadCells ⟨b, o, none⟩ vs.length).run P w = .ok vs.toArray w :=
  run_loadCells_list w ⟨b, o, none⟩ vs (fun j v hj => by rw [addr_add]; exact h j v hj)

/-- The heap with another block r. -/
def setB (w : World) (r : Nat) (o : Obj) : World := { w with heap := w.heap.setIfInBounds r o }

theorem setB_same {r : Nat} {o : Obj} (h : r < w.heap.size) : (setB w r o).heap[r]? = some o := by simp [setB, h]
theorem setB_other {r k : Nat} {o : Obj} (h : k ≠ r) : (setB w r o).heap[k]? = w.heap[k]? := by simp [setB, Array.getElem?_setIfInBounds_ne (Ne.symm h)]
theorem setB_setB (r : Nat) (o o' : Obj) : setB (setB w r o) r o' = setB w r o' := by
  simp only [setB]; congr 1
  apply Array.ext_getElem?; intro i
  by_cases h : r = i
  · subst h
    by_cases hb : r < w.heap.size
    · simp [hb]
    · simp [hb]
  · simp [Array.getElem?_setIfInBounds_ne h]
theorem setB_self {r : Nat} {o : Obj} (h : w.heap[r]? = some o) : setB w r o = w := by
  have : w.heap.setIfInBounds r o = w.heap := by
    apply Array.ext_getElem?; intro i
    by_cases hi : r = i
    · subst hi; have := (Array.getElem?_eq_some_iff.1 h).1; simp [this]
      have := (Array.getElem?_eq_some_iff.1 h).2; exact this.symm
    · simp [Array.getElem?_setIfInBounds_ne hi]
  simp [setB, this]

theorem setCell_setB {r o : Nat} {c : Array Value} {e : TypeId} {fz : Nat × Nat} {v : Value} (h : w.heap[r]? = some (.cells c e fz)) :
    w.setCell ⟨r, o, none⟩ v = setB w r (.cells (c.setIfInBounds o v) e fz) := by
  obtain ⟨hlt, hk⟩ := Array.getElem?_eq_some_iff.1 h
  have : (w.setCell ⟨r, o, none⟩ v).heap = (setB w r (.cells (c.setIfInBounds o v) e fz)).heap := by
    apply Array.ext_getElem?; intro i
    simp only [World.setCell, setB, Array.getElem?_modify]
    by_cases hi : r = i
    · subst hi; simp [hlt, hk]
    · simp [hi, Array.getElem?_setIfInBounds_ne hi]
  unfold setB at this ⊢
  unfold World.setCell at this ⊢
  simp only at this
  rw [this]

/-- A row of stores into one block. -/
theorem run_store_row (P : Program) (b o : Nat) (e : TypeId) (fz : Nat × Nat) : ∀ (vs : List Value) (i : Nat) (w : World) (c : Array Value), w.heap[b]? = some (.cells c e fz) → o + i + vs.length ≤ c.size →
    (∀ v ∈ vs, v.oneCell' = true) → (∀ j, o + i ≤ j → j < o + i + vs.length → ¬ (fz.1 ≤ j ∧ j < fz.2)) →
    ∃ c' : Array Value, (storeCells ⟨b, o, none⟩ vs i).run P w = .ok () (setB w b (.cells c' e fz)) ∧ c'.size = c.size ∧
      (∀ j, j < o + i → c'[j]? = c[j]?) ∧ (∀ j, o + i + vs.length ≤ j → c'[j]? = c[j]?) ∧ (∀ j, j < vs.length → c'[o + i + j]? = vs[j]?) := by
  intro vs
  induction vs with
  | nil => exact fun i w c h _ _ _ => ⟨c, by rw [setB_self h]; rfl, rfl, fun _ _ => rfl, fun _ _ => rfl, fun j hj => by simp at hj⟩
  | cons v vs ih =>
    intro i w c h hl h1 hf
    have hlt := (Array.getElem?_eq_some_iff.1 h).1
    have hcell : w.cell? ⟨b, o + i, none⟩ = some (c[o + i]'(by simp at hl; omega)) := by
      simp only [World.cell?, h]; simp
    have hfz : w.frozen? ⟨b, o + i, none⟩ = false := by
      have := hf (o + i) (by omega) (by simp)
      simp only [World.frozen?, h]
      simpa using this
    have hst : (store ⟨b, o + i, none⟩ v).run P w = .ok () (setB w b (.cells (c.setIfInBounds (o + i) v) e fz)) := by
      rw [run_store P w _ v .plain (h1 v (by simp)), hcell]
      simp only [hfz, Bool.false_eq_true, if_false]
      rw [setCell_setB h]
    obtain ⟨c', hr, hs, ha, hb, hc⟩ := ih (i + 1) (setB w b (.cells (c.setIfInBounds (o + i) v) e fz)) (c.setIfInBounds (o + i) v) (setB_same hlt) (by simp at hl ⊢; omega)
      (fun x hx => h1 x (by simp [hx])) (fun j a1 a2 => hf j (by omega) (by simp; omega))
    refine ⟨c', ?_, by simpa using hs, fun j hj => ?_, fun j hj => ?_, fun j hj => ?_⟩
    · simp only [storeCells, Sem.run_bind, addr_add, hst, Result.andThen_ok, hr, setB_setB]
    · rw [ha j (by omega), Array.getElem?_setIfInBounds_ne (by omega)]
    · simp at hj; rw [hb j (by omega), Array.getElem?_setIfInBounds_ne (by omega)]
    · cases j with
      | zero =>
        have := ha (o + i) (by omega)
        simp only [Nat.add_zero, List.getElem?_cons_zero]
        rw [this, Array.getElem?_setIfInBounds_self_of_lt (by simp at hl; omega)]
      | succ j =>
        have := hc j (by simp at hj; omega)
        rw [show o + i + (j + 1) = o + (i + 1) + j by omega, this]; rfl

/-! ### The relation, kept -/
theorem HR.put (H : HR P φ s w) {φ' : Inj} {w' : World} (hφ : Sub φ φ') {i nx' : Nat} {o : AObj} {im : Img} (hi : φ' i = some im) (hnx : s.nx ≤ nx') (hin : i < nx')
    (ho : OR P φ' im (w'.heap[im.blk]?) o)
    (hoth : ∀ j oj mj, j ≠ i → s.hp.get j = some oj → φ j = some mj → w'.heap[mj.blk]? = w.heap[mj.blk]? ∧ mj.blk ≠ im.blk) : HR P φ' { hp := s.hp.put i (some o), nx := nx' } w' where
  obj := fun id x hx => by
    simp only [T.get_put] at hx
    by_cases h : id = i
    · subst h; rw [if_pos rfl] at hx; cases hx; exact ⟨im, hi, ho⟩
    · rw [if_neg h] at hx
      obtain ⟨m, h1, h2⟩ := H.obj id x hx
      refine ⟨m, hφ _ _ h1, ?_⟩
      rw [(hoth id x m h hx h1).1]; exact h2.mono hφ
  inj := fun a b oa ob ma mb ha hb hma hmb hab hwr => by
    simp only [T.get_put] at ha hb
    have old : ∀ k ok mk, k ≠ i → s.hp.get k = some ok → φ' k = some mk → φ k = some mk := fun k ok mk hk h1 h2 => by
      obtain ⟨m, h3, _⟩ := H.obj k ok h1
      have := hφ _ _ h3; rw [h2] at this; cases this; exact h3
    by_cases h : a = i
    · subst h; rw [hi] at hma; cases hma
      rw [if_neg (Ne.symm hab)] at hb
      exact fun e => (hoth b ob mb (Ne.symm hab) hb (old b ob mb (Ne.symm hab) hb hmb)).2 e.symm
    · rw [if_neg h] at ha
      by_cases h' : b = i
      · subst h'; rw [hi] at hmb; cases hmb
        exact (hoth a oa ma h ha (old a oa ma h ha hma)).2
      · rw [if_neg h'] at hb
        exact H.inj a b oa ob ma mb ha hb (old a oa ma h ha hma) (old b ob mb h' hb hmb) hab hwr
  bnd := fun id x hx => by
    simp only [T.get_put] at hx
    by_cases h : id = i
    · subst h; exact hin
    · rw [if_neg h] at hx; exact Nat.lt_of_lt_of_le (H.bnd id x hx) hnx
  glob := fun g hg => by
    obtain ⟨m, h1, h2⟩ := H.glob g hg
    exact ⟨m, hφ _ _ h1, h2⟩
  nxg := Nat.le_trans H.nxg hnx

theorem HR.del (H : HR P φ s w) (i : Nat) : HR P φ { s with hp := s.hp.put i none } w where
  obj := fun id x hx => by
    simp only [T.get_put] at hx
    split at hx
    · cases hx
    · exact H.obj id x hx
  inj := fun a b oa ob ma mb ha hb hma hmb hab hwr => by
    simp only [T.get_put] at ha hb
    split at ha
    · cases ha
    · split at hb
      · cases hb
      · exact H.inj a b oa ob ma mb ha hb hma hmb hab hwr
  bnd := fun id x hx => by
    simp only [T.get_put] at hx
    split at hx
    · cases hx
    · exact H.bnd id x hx
  glob := H.glob
  nxg := H.nxg

/-- A change that leaves the heap alone. -/
theorem HR.same (H : HR P φ s w) {w' : World} (h : w'.heap = w.heap) : HR P φ s w' where
  obj := fun id x hx => by rw [h]; exact H.obj id x hx
  inj := H.inj
  bnd := H.bnd
  glob := H.glob
  nxg := H.nxg

theorem Post.same (H : HR P φ s w) {w' : World} (h : w'.heap = w.heap) (h1 : w'.os = w.os) (h2 : w'.tape = w.tape) (h3 : w'.output = w.output) (h4 : w.drawn ≤ w'.drawn) : Post P φ lk s w φ s w' where
  ext := Sub.refl φ
  out := fun _ _ => rfl
  rel := H.same h
  nx := Nat.le_refl _
  live := fun _ _ h => h
  livw := fun _ _ h => h
  lock := fun _ _ => rfl
  keep := fun _ L h => ⟨L, h⟩
  os := h1
  tape := h2
  output := h3
  drawn := h4
  size := by rw [h]; exact Nat.le_refl _
  frame := fun _ _ _ => by rw [h]
  news := fun id im a b _ => by
    obtain ⟨o, ho⟩ := Option.ne_none_iff_exists'.1 b
    have := H.bnd id o ho; omega

/-- A block that may be written holds something else. -/
theorem Post.set (H : HR P φ s w) {i : Nat} {o0 o : AObj} {im : Img} {ob : Obj} (hl : lk ≤ i) (h0 : s.hp.get i = some o0) (hw : wrO o0 = true) (hi : φ i = some im) (ho : OR P φ im (some ob) o)
    (hk : ∀ L, o0 = .loop L → ∃ L', o = .loop L') :
    Post P φ lk s w φ { s with hp := s.hp.put i (some o) } (setB w im.blk ob) := by
  have hlt := H.lt h0 hi
  exact {
    ext := Sub.refl φ
    out := fun _ _ => rfl
    rel := by
      refine H.put (Sub.refl φ) hi (Nat.le_refl _) (H.bnd i o0 h0) (by rw [setB_same hlt]; exact ho) (fun j oj mj hj h1 h2 => ?_)
      have hne : mj.blk ≠ im.blk := H.inj j i oj o0 mj im h1 h0 h2 hi hj (Or.inr hw)
      exact ⟨setB_other hne, hne⟩
    nx := Nat.le_refl _
    live := fun id _ hid => by
      simp only [T.get_put] at hid
      by_cases h : id = i
      · subst h; rw [h0]; simp
      · rwa [if_neg h] at hid
    livw := fun id _ hid => by
      by_cases h : id = i
      · subst h; exact ⟨o0, h0, hw⟩
      · exact hid.of_eq (T.get_put_ne _ _ _ h)
    lock := fun id hid => T.get_put_ne _ _ _ (by omega)
    keep := fun id L e => by
      by_cases h : id = i
      · subst h; rw [h0] at e
        obtain ⟨L', e'⟩ := hk L (Option.some.inj e)
        exact ⟨L', by rw [T.get_put_eq, e']⟩
      · exact ⟨L, by rw [T.get_put_ne _ _ _ h]; exact e⟩
    os := rfl
    tape := rfl
    output := rfl
    drawn := Nat.le_refl _
    size := by simp [setB]
    frame := fun r _ hno => setB_other (Ne.symm (hno i im hl ⟨o0, h0, hw⟩ hi))
    news := fun id m h1 h2 _ => by
      simp only [T.get_put] at h2
      have hb := H.bnd i o0 h0
      rw [if_neg (show ¬ id = i by have : s.nx ≤ id := h1; omega)] at h2
      obtain ⟨x, hx⟩ := Option.ne_none_iff_exists'.1 h2
      have := H.bnd id x hx; have : s.nx ≤ id := h1; omega }

def addI (φ : Inj) (i : Nat) (im : Img) : Inj := fun id => if id = i then some im else φ id
theorem addI_sub {i : Nat} {im : Img} (h : φ i = none) : Sub φ (addI φ i im) := fun id m e => by
  unfold addI
  by_cases hh : id = i
  · subst hh; rw [h] at e; cases e
  · rw [if_neg hh]; exact e
theorem addI_self (φ : Inj) (i : Nat) (im : Img) : addI φ i im i = some im := if_pos rfl
theorem addI_other (φ : Inj) {i id : Nat} (im : Img) (h : id ≠ i) : addI φ i im id = φ id := if_neg h

/-- A new block. -/
theorem Post.new (H : HR P φ s w) (hlk : lk ≤ s.nx) (hf : φ s.nx = none) {o : AObj} {im : Img} {ob : Obj} (hb : im.blk = w.heap.size)
    (ho : OR P (addI φ s.nx im) im (some ob) o) : Post P φ lk s w (addI φ s.nx im) { hp := s.hp.put s.nx (some o), nx := s.nx + 1 } (w.alloc ob) := by
  have hget : ∀ k, k < w.heap.size → (w.alloc ob).heap[k]? = w.heap[k]? := fun k hk => by
    show (w.heap.push ob)[k]? = _
    rw [Array.getElem?_push, if_neg (by omega)]
  exact {
    ext := addI_sub hf
    out := fun id hid => addI_other φ im (by rcases hid with h | h; omega; simp at h; omega)
    rel := by
      refine H.put (addI_sub hf) (addI_self φ _ im) (Nat.le_succ _) (Nat.lt_succ_self _) ?_ (fun j oj mj hj h1 h2 => ?_)
      · rw [hb, World.alloc_heap_new]; exact ho
      · have := H.lt h1 h2
        exact ⟨hget _ this, by omega⟩
    nx := Nat.le_succ _
    live := fun id hid h => by
      simp only [T.get_put] at h
      rwa [if_neg (by omega)] at h
    livw := fun id hid h => h.of_eq (T.get_put_ne _ _ _ (by omega))
    lock := fun id hid => T.get_put_ne _ _ _ (by omega)
    keep := fun id L e => ⟨L, by rw [T.get_put_ne _ _ _ (by have := H.bnd id _ e; omega)]; exact e⟩
    os := rfl
    tape := rfl
    output := rfl
    drawn := Nat.le_refl _
    size := by simp
    frame := fun r hr _ => hget r hr
    news := fun id m h1 h2 h3 => by
      simp only [T.get_put] at h2
      by_cases h : id = s.nx
      · subst h; rw [addI_self] at h3; cases h3; exact Or.inl (by omega)
      · rw [if_neg h] at h2
        obtain ⟨x, hx⟩ := Option.ne_none_iff_exists'.1 h2
        have := H.bnd id x hx; omega }

/-- A block is given up. -/
theorem Post.del (H : HR P φ s w) {i : Nat} (hl : lk ≤ i) (hk : ∀ L, s.hp.get i ≠ some (.loop L)) : Post P φ lk s w φ { s with hp := s.hp.put i none } w where
  ext := Sub.refl φ
  out := fun _ _ => rfl
  rel := H.del i
  nx := Nat.le_refl _
  live := fun id _ h => by
    simp only [T.get_put] at h
    split at h
    · simp at h
    · exact h
  livw := fun id _ h => by
    by_cases hi : id = i
    · subst hi; exact absurd (T.get_put_eq _ _ _) h.ne
    · exact h.of_eq (T.get_put_ne _ _ _ hi)
  lock := fun id hid => T.get_put_ne _ _ _ (by omega)
  keep := fun id L e => ⟨L, by rw [T.get_put_ne _ _ _ (fun h => hk L (by rw [← h]; exact e))]; exact e⟩
  os := rfl
  tape := rfl
  output := rfl
  drawn := Nat.le_refl _
  size := Nat.le_refl _
  frame := fun _ _ _ => rfl
  news := fun id im a b _ => by
    simp only [T.get_put] at b
    split at b
    · simp at b
    · obtain ⟨o, ho⟩ := Option.ne_none_iff_exists'.1 b
      have := H.bnd id o ho; have : s.nx ≤ id := a; omega

/-- A block is given up, and its room goes on under a new name. -/
theorem Post.turn (H : HR P φ s w) {i : Nat} {o0 o : AObj} {im im' : Img} {ob : Obj} (hl : lk ≤ i) (h0 : s.hp.get i = some o0) (hw : wrO o0 = true) (hk : ∀ L, o0 ≠ .loop L) (hi : φ i = some im) (hf : φ s.nx = none)
    (hb : im'.blk = im.blk) (ho : OR P (addI φ s.nx im') im' (some ob) o) :
    Post P φ lk s w (addI φ s.nx im') { hp := (s.hp.put i none).put s.nx (some o), nx := s.nx + 1 } (setB w im.blk ob) := by
  have hlt := H.lt h0 hi
  have hin := H.bnd i o0 h0
  have hne : ∀ j oj mj, j ≠ i → s.hp.get j = some oj → φ j = some mj → mj.blk ≠ im.blk := fun j oj mj hj h1 h2 => H.inj j i oj o0 mj im h1 h0 h2 hi hj (Or.inr hw)
  exact {
    ext := addI_sub hf
    out := fun id hid => addI_other φ im' (by rcases hid with h | h; omega; simp at h; omega)
    rel := by
      have H' := H.del i
      refine H'.put (i := s.nx) (nx' := s.nx + 1) (addI_sub hf) (addI_self φ _ im') (Nat.le_succ _) (Nat.lt_succ_self _) ?_ (fun j oj mj hj h1 h2 => ?_)
      · rw [hb, setB_same hlt]; exact ho
      · simp only [T.get_put] at h1
        split at h1
        · cases h1
        · rename_i hji
          have := hne j oj mj hji h1 h2
          exact ⟨setB_other this, by rw [hb]; exact this⟩
    nx := Nat.le_succ _
    live := fun id hid h => by
      simp only [T.get_put] at h
      rw [if_neg (by omega)] at h
      split at h
      · simp at h
      · exact h
    livw := fun id hid h => by
      have h2 := h.of_eq (g := (s.hp.put i none).get) (T.get_put_ne _ _ _ (by omega))
      by_cases hi' : id = i
      · subst hi'; exact absurd (T.get_put_eq _ _ _) h2.ne
      · exact h2.of_eq (T.get_put_ne _ _ _ hi')
    lock := fun id hid => by
      show ((s.hp.put i none).put s.nx (some o)).get id = _
      rw [T.get_put_ne _ _ _ (by omega), T.get_put_ne _ _ _ (by omega)]
    keep := fun id L e => by
      have h1 : id < s.nx := H.bnd id _ e
      have h2 : id ≠ i := fun h => hk L (by rw [h, h0] at e; exact Option.some.inj e)
      exact ⟨L, by show ((s.hp.put i none).put s.nx (some o)).get id = _; rw [T.get_put_ne _ _ _ (by omega), T.get_put_ne _ _ _ h2]; exact e⟩
    os := rfl
    tape := rfl
    output := rfl
    drawn := Nat.le_refl _
    size := by simp [setB]
    frame := fun r _ hno => setB_other (Ne.symm (hno i im hl ⟨o0, h0, hw⟩ hi))
    news := fun id m h1 h2 h3 => by
      simp only [T.get_put] at h2
      by_cases h : id = s.nx
      · subst h; rw [addI_self] at h3; cases h3
        exact Or.inr ⟨i, im, hl, ⟨o0, h0, hw⟩, hi, hb.symm⟩
      · rw [if_neg h] at h2
        split at h2
        · simp at h2
        · obtain ⟨x, hx⟩ := Option.ne_none_iff_exists'.1 h2
          have := H.bnd id x hx; omega }

end Go.Ev
