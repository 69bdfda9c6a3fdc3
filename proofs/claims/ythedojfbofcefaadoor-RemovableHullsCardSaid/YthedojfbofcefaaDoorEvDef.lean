/- An evaluator of the model's code on a clean state: blocks have names of their own, nothing is drawn. Definitions alone. -/
import Derived.RangeFuncRecord
import Derived.LoopNIn
import Derived.OrdersIn
import Derived.RangeFuncIn
import Derived.RangeFuncCalls
import Derived.Laws.Append
import Derived.Laws.AppendOwn
import Derived.Laws.Cells
namespace Go.Ev
open Go

/-- A finite map from numbers, as a tree over their digits. -/
inductive T (α : Type) where
  | nil
  | node (v : Option α) (l r : T α)

def T.get {α : Type} : T α → Nat → Option α
  | .nil, _ => none
  | .node v l r, n => bif Nat.beq n 0 then v else bif Nat.beq (n % 2) 1 then l.get (n / 2) else r.get (n / 2 - 1)

def T.setF {α : Type} (v : Option α) : Nat → T α → Nat → T α
  | 0, t, _ => t
  | f + 1, .nil, n =>
    bif Nat.beq n 0 then .node v .nil .nil
    else bif Nat.beq (n % 2) 1 then .node none (T.setF v f .nil (n / 2)) .nil else .node none .nil (T.setF v f .nil (n / 2 - 1))
  | f + 1, .node x l r, n =>
    bif Nat.beq n 0 then .node v l r
    else bif Nat.beq (n % 2) 1 then .node x (T.setF v f l (n / 2)) r else .node x l (T.setF v f r (n / 2 - 1))

def T.put {α : Type} (t : T α) (n : Nat) (v : Option α) : T α := T.setF v (n + 1) t n

theorem beq_t {a b : Nat} (h : a = b) : Nat.beq a b = true := by subst h; exact Nat.beq_refl a
theorem beq_f {a b : Nat} (h : a ≠ b) : Nat.beq a b = false := by
  cases hh : Nat.beq a b with
  | false => rfl
  | true => exact absurd (Nat.eq_of_beq_eq_true hh) h

theorem T.get_node {α : Type} (v : Option α) (l r : T α) (n : Nat) :
    (T.node v l r).get n = if n = 0 then v else if n % 2 = 1 then l.get (n / 2) else r.get (n / 2 - 1) := by
  simp only [T.get]
  by_cases h0 : n = 0
  · rw [if_pos h0, beq_t h0]; rfl
  · rw [if_neg h0, beq_f h0]
    by_cases h1 : n % 2 = 1
    · rw [if_pos h1, beq_t h1]; rfl
    · rw [if_neg h1, beq_f h1]; rfl

theorem T.get_setF {α : Type} (v : Option α) : ∀ (f : Nat) (t : T α) (n m : Nat), n < f → (T.setF v f t n).get m = if m = n then v else t.get m := by
  intro f
  induction f with
  | zero => intro t n m h; omega
  | succ f ih =>
    intro t n m h
    cases t with
    | nil =>
      simp only [T.setF]
      by_cases h0 : n = 0
      · rw [beq_t h0, cond_true, T.get_node]
        by_cases hm : m = 0
        · rw [if_pos hm, if_pos (by omega)]
        · rw [if_neg hm, if_neg (show ¬ m = n by omega)]; simp [T.get]
      · rw [beq_f h0, cond_false]
        by_cases h1 : n % 2 = 1
        · rw [beq_t h1, cond_true, T.get_node, ih _ _ _ (by omega)]
          by_cases hm : m = 0
          · rw [if_pos hm, if_neg (by omega)]; rfl
          · rw [if_neg hm]
            by_cases hm1 : m % 2 = 1
            · rw [if_pos hm1]
              by_cases he : m = n
              · rw [if_pos he, if_pos (by omega)]
              · rw [if_neg he, if_neg (by omega)]; rfl
            · rw [if_neg hm1, if_neg (by omega)]; rfl
        · rw [beq_f h1, cond_false, T.get_node, ih _ _ _ (by omega)]
          by_cases hm : m = 0
          · rw [if_pos hm, if_neg (by omega)]; rfl
          · rw [if_neg hm]
            by_cases hm1 : m % 2 = 1
            · rw [if_pos hm1, if_neg (by omega)]; rfl
            · rw [if_neg hm1]
              by_cases he : m = n
              · rw [if_pos he, if_pos (by omega)]
              · rw [if_neg he, if_neg (by omega)]; rfl
    | node x l r =>
      simp only [T.setF]
      by_cases h0 : n = 0
      · rw [beq_t h0, cond_true, T.get_node, T.get_node]
        by_cases hm : m = 0
        · rw [if_pos hm, if_pos (by omega)]
        · rw [if_neg hm, if_neg (show ¬ m = n by omega), if_neg hm]
      · rw [beq_f h0, cond_false]
        by_cases h1 : n % 2 = 1
        · rw [beq_t h1, cond_true, T.get_node, T.get_node, ih _ _ _ (by omega)]
          by_cases hm : m = 0
          · rw [if_pos hm, if_neg (by omega), if_pos hm]
          · rw [if_neg hm, if_neg hm]
            by_cases hm1 : m % 2 = 1
            · rw [if_pos hm1, if_pos hm1]
              by_cases he : m = n
              · rw [if_pos he, if_pos (by omega)]
              · rw [if_neg he, if_neg (by omega)]
            · rw [if_neg hm1, if_neg hm1, if_neg (by omega)]
        · rw [beq_f h1, cond_false, T.get_node, T.get_node, ih _ _ _ (by omega)]
          by_cases hm : m = 0
          · rw [if_pos hm, if_neg (by omega), if_pos hm]
          · rw [if_neg hm, if_neg hm]
            by_cases hm1 : m % 2 = 1
            · rw [if_pos hm1, if_pos hm1, if_neg (by omega)]
            · rw [if_neg hm1, if_neg hm1]
              by_cases he : m = n
              · rw [if_pos he, if_pos (by omega)]
              · rw [if_neg he, if_neg (by omega)]

theorem T.get_put {α : Type} (t : T α) (n : Nat) (v : Option α) (m : Nat) : (t.put n v).get m = if m = n then v else t.get m :=
  T.get_setF v (n + 1) t n m (by omega)
theorem T.get_put_eq {α : Type} (t : T α) (n : Nat) (v : Option α) : (t.put n v).get n = v := by rw [T.get_put, if_pos rfl]
theorem T.get_put_ne {α : Type} (t : T α) (n : Nat) (v : Option α) {m : Nat} (h : m ≠ n) : (t.put n v).get m = t.get m := by rw [T.get_put, if_neg h]
theorem T.get_nil {α : Type} (m : Nat) : (T.nil : T α).get m = none := rfl

/-- A capacity from UNK on is not known: at least what it exceeds UNK by. -/
def UNK : Nat := 1000000000000000000000000

structure ALoop where
  fr : T Value
  sz : Nat
  params : Array Tmp
  assign : Code
  body : Code
  state : LoopState
  pending : Option Code

inductive AObj where
  | cells (wr : Bool) (elem : TypeId) (cs : List Value)
  | map (es : List (Value × Value))
  | loop (L : ALoop)

structure HS where
  hp : T AObj
  nx : Nat

abbrev Fr := T Value

inductive Sig where
  | normal
  | exit (id : Nat)
  | ret

def omap {α β : Type} (f : α → Option β) : List α → Option (List β)
  | [] => some []
  | x :: xs => (f x).bind fun y => (omap f xs).bind fun ys => some (y :: ys)

/-- No address stands in it. -/
def plainN : Nat → Value → Bool
  | _, .bool _ => true
  | _, .int _ _ => true
  | _, .float _ _ => true
  | _, .complex _ _ _ => true
  | _, .string _ => true
  | _, .pointer none => true
  | _, .slice none _ _ => true
  | _, .map none => true
  | _, .chan none => true
  | _, .nilFunc => true
  | _, .nilIface => true
  | n + 1, .agg cs => cs.toList.all (plainN n)
  | n + 1, .tuple cs => cs.toList.all (plainN n)
  | n + 1, .iface _ v => plainN n v
  | _, _ => false

/-! ### What a type tells -/
section types
variable (P : Program)

/-- How many cells a value has, and whether it is an aggregate. -/
def tyA (t : TypeId) : Option (Nat × Bool) :=
  match P.info? t, P.underlying t with
  | some i, some (.struct _) => some (i.size, true)
  | some i, some (.array _ _) => some (i.size, true)
  | some i, some _ => some (i.size, false)
  | _, _ => none
def szA (t : TypeId) : Option Nat := (P.info? t).map (·.size)
def bytesA (t : TypeId) : Option Nat := (P.info? t).map (·.bytes)
def zeroA (t : TypeId) : Option Value := (P.info? t).bind fun i => i.zero.bind fun v => bif plainN 4 v then some v else none
def elemA (t : TypeId) : Option TypeId := match P.underlying t with | some (.slice e) => some e | _ => none
/-- Where a field lies: its offset, its size, its type. -/
def fieldA (s : TypeId) (f : Nat) : Option (Nat × Nat × TypeId) :=
  match P.underlying s with
  | some (.struct fs) => (fs[f]?).bind fun x => (szA P x.type).bind fun n => some (x.offset, n, x.type)
  | _ => none
def fieldsA (s : TypeId) : Option (List Field) := match P.underlying s with | some (.struct fs) => some fs.toList | _ => none
def arrA (t : TypeId) : Option (Nat × TypeId) := match P.underlying t with | some (.array n e) => some (n, e) | _ => none
def mapA (t : TypeId) : Option (TypeId × TypeId) := match P.underlying t with | some (.map k e) => some (k, e) | _ => none
end types

/-! ### Memory -/
def cutL (cs : List Value) (off n : Nat) : Option (List Value) := if off + n ≤ cs.length then some ((cs.drop off).take n) else none
def putL (cs : List Value) (off : Nat) (vs : List Value) : List Value := cs.take off ++ (vs ++ cs.drop (off + vs.length))

def readA (h : T AObj) (a : Addr) (n : Nat) : Option (List Value) :=
  match a.spot, h.get a.block with
  | none, some (.cells _ _ cs) => cutL cs a.off n
  | _, _ => none
def writeA (lk : Nat) (h : T AObj) (a : Addr) (vs : List Value) : Option (T AObj) :=
  match a.spot, h.get a.block with
  | none, some (.cells true e cs) =>
    if lk ≤ a.block ∧ a.off + vs.length ≤ cs.length ∧ vs.all Value.oneCell' = true then some (h.put a.block (some (.cells true e (putL cs a.off vs)))) else none
  | _, _ => none
def newA (s : HS) (e : TypeId) (cs : List Value) : Nat × HS := (s.nx, { hp := s.hp.put s.nx (some (.cells true e cs)), nx := s.nx + 1 })

def packA (agg : Bool) (vs : List Value) : Option Value := if agg then some (.agg vs.toArray) else match vs with | [v] => some v | _ => none

def loadV (P : Program) (h : T AObj) (t : TypeId) (a : Value) : Option Value :=
  match a with
  | .pointer (some ad) => (tyA P t).bind fun (n, g) => (readA h ad n).bind (packA g)
  | _ => none
def storeV (P : Program) (lk : Nat) (s : HS) (t : TypeId) (a v : Value) : Option HS :=
  match a with
  | .pointer (some ad) => (szA P t).bind fun n => if v.cells.toList.length = n then (writeA lk s.hp ad v.cells.toList).map fun h => { s with hp := h } else none
  | _ => none

/-! ### Operators -/
def intBinA (op : BinOp) (k : IntKind) (a b : Int) : Option Value :=
  match op with
  | .add => some (.int k (k.wrap (a + b)))
  | .sub => some (.int k (k.wrap (a - b)))
  | .mul => some (.int k (k.wrap (a * b)))
  | .quo => if b = 0 then none else some (.int k (k.wrap (a.tdiv b)))
  | .rem => if b = 0 then none else some (.int k (a.tmod b))
  | .and => some (.int k (k.wrap (BitVec.ofInt k.bits a &&& BitVec.ofInt k.bits b).toNat))
  | .or => some (.int k (k.wrap (BitVec.ofInt k.bits a ||| BitVec.ofInt k.bits b).toNat))
  | .xor => some (.int k (k.wrap (BitVec.ofInt k.bits a ^^^ BitVec.ofInt k.bits b).toNat))
  | .andNot => some (.int k (k.wrap (BitVec.ofInt k.bits a &&& ~~~BitVec.ofInt k.bits b).toNat))
  | .eql => some (.bool (a == b))
  | .neq => some (.bool (a != b))
  | .lss => some (.bool (a < b))
  | .leq => some (.bool (a ≤ b))
  | .gtr => some (.bool (a > b))
  | .geq => some (.bool (a ≥ b))
  | .shl | .shr => none

def shiftA (op : BinOp) (k : IntKind) (a b : Int) : Option Value :=
  if b < 0 then none else
  match op with
  | .shl => some (.int k (k.wrap (a * 2 ^ (min b.toNat k.bits))))
  | .shr => some (.int k (a.fdiv (2 ^ (min b.toNat k.bits))))
  | _ => none

def strBinA (op : BinOp) (x y : ByteArray) : Option Value :=
  match op with
  | .add => if ((x.size + y.size : Nat) : Int) > IntKind.i64.max then none else some (.string (x ++ y))
  | .eql => some (.bool (x.toList == y.toList))
  | .neq => some (.bool !(x.toList == y.toList))
  | .lss => some (.bool (Op.bytesLess x.toList y.toList))
  | .leq => some (.bool (Op.bytesLess x.toList y.toList || x.toList == y.toList))
  | .gtr => some (.bool !(Op.bytesLess x.toList y.toList || x.toList == y.toList))
  | .geq => some (.bool !(Op.bytesLess x.toList y.toList))
  | _ => none

def partA (P : Program) (t : TypeId) (cs : List Value) (off : Nat) : Option Value :=
  (tyA P t).bind fun (n, g) => (cutL cs off n).bind (packA g)

def eqFields (P : Program) (eq : TypeId → Value → Value → Option Bool) (xs ys : List Value) : List Field → Option Bool
  | [] => some true
  | f :: fs => if f.name = "_" then eqFields P eq xs ys fs else
    (partA P f.type xs f.offset).bind fun a => (partA P f.type ys f.offset).bind fun b =>
    (eq f.type a b).bind fun r => if r then eqFields P eq xs ys fs else some false

/-- '==' of two values of a type; nothing is told of two addresses. -/
def eqA (P : Program) : Nat → TypeId → Value → Value → Option Bool
  | 0, _, _, _ => none
  | d + 1, t, x, y =>
    match P.underlying t, x, y with
    | some .bool, .bool a, .bool b => some (a == b)
    | some (.int _), .int k a, .int k' b => if k = k' then some (a == b) else none
    | some .string, .string a, .string b => some (a == b)
    | some (.pointer _), .pointer none, .pointer b => some b.isNone
    | some (.pointer _), .pointer (some _), .pointer none => some false
    | some (.slice _), .slice none _ _, .slice b _ _ => some b.isNone
    | some (.slice _), .slice (some _) _ _, .slice none _ _ => some false
    | some (.map _ _), .map none, .map b => some b.isNone
    | some (.map _ _), .map (some _), .map none => some false
    | some (.func _ _ _), .nilFunc, .nilFunc => some true
    | some (.func _ _ _), .nilFunc, .func _ _ _ => some false
    | some (.func _ _ _), .func _ _ _, .nilFunc => some false
    | some (.struct fields), .agg xs, .agg ys =>
      if P.stoodInHeld t then none else eqFields P (eqA P d) xs.toList ys.toList fields.toList
    | _, _, _ => none

def eqGuardA (P : Program) (t : TypeId) (x y : Value) : Bool :=
  match x, y with
  | .nilIface, .nilIface => false
  | .float _ _, _ => false
  | .complex _ _ _, _ => false
  | .agg _, .agg _ => !P.eqGuardType P.depth t
  | _, _ => true

def binA (P : Program) (op : BinOp) (t : TypeId) (x y : Value) : Option Value :=
  match x, y with
  | .int k a, .int k' b =>
    match op with
    | .shl | .shr => shiftA op k a b
    | _ => if k = k' then intBinA op k a b else none
  | .string a, .string b => strBinA op a b
  | _, _ =>
    match op with
    | .eql => if eqGuardA P t x y then (eqA P 10000 t x y).map .bool else none
    | .neq => if eqGuardA P t x y then (eqA P 10000 t x y).map fun b => .bool !b else none
    | _ => none

def unA (op : UnOp) (x : Value) : Option Value :=
  match op, x with
  | .neg, .int k n => some (.int k (k.wrap (0 - n)))
  | .xor, .int k n => some (.int k (k.wrap (BitVec.ofInt k.bits (if k.signed then -1 else k.max) ^^^ BitVec.ofInt k.bits n).toNat))
  | .not, .bool b => some (.bool !b)
  | _, _ => none

def convA (P : Program) (src dst : TypeId) (x : Value) : Option Value :=
  match P.underlying src, P.underlying dst, x with
  | some (.int _), some (.int k), .int _ n => some (.int k (k.wrap n))
  | some .string, some .string, .string s => some (.string s)
  | _, _, _ => none

/-! ### Operations on slices and aggregates -/
def fillA (place : Nat → Option (Nat × Nat)) (cs : List Value) : List (Nat × Value) → Option (List Value)
  | [] => some cs
  | (i, v) :: rest => (place i).bind fun (off, size) =>
    if v.cells.toList.length ≠ size ∨ cs.length < off + v.cells.toList.length then none else fillA place (putL cs off v.cells.toList) rest

def buildA (P : Program) (t : TypeId) (parts : List (Nat × Value)) : Option Value :=
  (zeroA P t).bind fun z =>
  match P.underlying t with
  | some (.struct fields) =>
    (omap (fun (f : Field) => (szA P f.type).map fun n => (f.offset, n)) fields.toList).bind fun places =>
    (fillA (fun i => places[i]?) z.cells.toList parts).map fun cs => .agg cs.toArray
  | some (.array _ elem) => (szA P elem).bind fun size => (fillA (fun i => some (i * size, size)) z.cells.toList parts).map fun cs => .agg cs.toArray
  | _ => none

/-- n zero elements. -/
def zerosL (z : List Value) : Nat → List Value
  | 0 => []
  | n + 1 => z ++ zerosL z n

def buildSliceA (P : Program) (t : TypeId) (len : Nat) (parts : List (Nat × Value)) (s : HS) : Option (Value × HS) :=
  (elemA P t).bind fun e => (szA P e).bind fun size => (zeroA P e).bind fun z =>
  if z.cells.toList.length = size ∧ size ≠ 0 ∧ len * size ≤ 2 ^ 24 then
    (fillA (fun i => some (i * size, size)) (zerosL z.cells.toList len) parts).map fun cs =>
      let (id, s') := newA s e cs
      (.slice (some ⟨id, 0, none⟩) len len, s')
  else none

def makeSliceA (P : Program) (t : TypeId) (len cap : Value) (s : HS) : Option (Value × HS) :=
  match len, cap with
  | .int _ l, .int _ c =>
    (elemA P t).bind fun e => (szA P e).bind fun size => (bytesA P e).bind fun by_ => (zeroA P e).bind fun z =>
    if z.cells.toList.length = size ∧ size ≠ 0 ∧ 0 ≤ l ∧ l ≤ c ∧ c ≤ 1099511627776 ∧ by_ * c ≤ 1099511627776 then
      let (id, s') := newA s e (zerosL z.cells.toList c.toNat)
      some (.slice (some ⟨id, 0, none⟩) l.toNat c.toNat, s')
    else none
  | _, _ => none

def indexAddrA (P : Program) (t : TypeId) (x i : Value) : Option Value :=
  match i with
  | .int _ i =>
    match P.underlying t, x with
    | some (.slice e), .slice (some a) len _ => (szA P e).bind fun n => if 0 ≤ i ∧ i < len then some (.pointer (some ⟨a.block, a.off + i.toNat * n, none⟩)) else none
    | some (.array len e), .pointer (some a) => (szA P e).bind fun n => if 0 ≤ i ∧ i < len then some (.pointer (some ⟨a.block, a.off + i.toNat * n, none⟩)) else none
    | _, _ => none
  | _ => none

def fieldAddrA (P : Program) (t : TypeId) (x : Value) (f : Nat) : Option Value :=
  match x with
  | .pointer (some a) => (fieldA P t f).bind fun (off, n, _) => if n = 0 then none else some (.pointer (some ⟨a.block, a.off + off, none⟩))
  | _ => none

def fieldValA (P : Program) (t : TypeId) (x : Value) (f : Nat) : Option Value :=
  match x with
  | .agg cs => (fieldA P t f).bind fun (off, _, ft) => partA P ft cs.toList off
  | _ => none

def indexA (P : Program) (t : TypeId) (x i : Value) : Option Value :=
  match i with
  | .int _ i =>
    match P.underlying t, x with
    | some (.array len e), .agg cs => (szA P e).bind fun n => if 0 ≤ i ∧ i < len then partA P e cs.toList (i.toNat * n) else none
    | some .string, .string s => if 0 ≤ i then (s.data.toList[i.toNat]?).map fun b => .int .u8 b.toNat else none
    | _, _ => none
  | _ => none

def natA : Value → Option Nat
  | .int _ i => if 0 ≤ i then some i.toNat else none
  | _ => none
def onatA : Option Value → Option (Option Nat)
  | none => some none
  | some v => (natA v).map some

def liveE (P : Program) (h : T AObj) (id n : Nat) : Bool := match h.get id with | some (.cells _ e _) => szA P e == some n | _ => false

def sliceA (P : Program) (h : T AObj) (t : TypeId) (x : Value) (lo hi mx : Option Value) : Option Value :=
  (onatA lo).bind fun lo => (onatA hi).bind fun hi => (onatA mx).bind fun mx =>
  let l := lo.getD 0
  match P.underlying t, x with
  | some .string, .string s =>
    let hh := hi.getD s.size
    if mx = none ∧ l ≤ hh ∧ hh ≤ s.size then some (.string (s.extract l hh)) else none
  | some (.slice e), .slice a len cap => (szA P e).bind fun n =>
    let hh := hi.getD len
    match mx with
    | some m =>
      if l ≤ hh ∧ hh ≤ m ∧ hi.isSome = true ∧ m < UNK ∧ ((cap < UNK ∧ m ≤ cap) ∨ (UNK ≤ cap ∧ m ≤ len ∧ 0 < len)) then
        some (.slice (if m = l then a else a.map fun a => ⟨a.block, a.off + l * n, none⟩) (hh - l) (m - l)) else none
    | none =>
      if cap < UNK then
        if l ≤ hh ∧ hh ≤ cap then some (.slice (if cap = l then a else a.map fun a => ⟨a.block, a.off + l * n, none⟩) (hh - l) (cap - l)) else none
      else
        match a with
        | some a => if l ≤ hh ∧ hh ≤ len ∧ liveE P h a.block n = true then some (.slice (some ⟨a.block, a.off + l * n, none⟩) (hh - l) (UNK + (cap - UNK - l))) else none
        | none => none
  | some (.array len e), .pointer (some a) => (szA P e).bind fun n =>
    let hh := hi.getD len
    let m := mx.getD len
    if l ≤ hh ∧ hh ≤ m ∧ m ≤ len ∧ len < UNK ∧ (mx.isSome = true → hi.isSome = true) then some (.slice (some (if m = l then a else ⟨a.block, a.off + l * n, none⟩)) (hh - l) (m - l)) else none
  | _, _ => none

/-- The cells of the first n elements. -/
def firstA (h : T AObj) (size n : Nat) : Value → Option (List Value)
  | .slice (some a) _ _ => readA h a (n * size)
  | .slice none _ _ => if n = 0 then some [] else none
  | .string s => if size = 1 ∧ n ≤ s.size then some ((s.extract 0 n).data.toList.map fun b => .int .u8 b.toNat) else none
  | _ => none
def lenV : Value → Option Nat
  | .slice _ n _ => some n
  | .string s => some s.size
  | _ => none

def appendA (P : Program) (lk : Nat) (t : TypeId) (x y : Value) (s : HS) : Option (Value × HS) :=
  match x with
  | .slice base len cap =>
    (elemA P t).bind fun e => (szA P e).bind fun size => (bytesA P e).bind fun by_ => (zeroA P e).bind fun z => (lenV y).bind fun n =>
    if size = 0 ∨ z.cells.toList.length ≠ size ∨ ¬ (len + n) * (by_ + size) ≤ 1099511627776 then none else
    if n = 0 then (if (cap < UNK ∧ len ≤ cap) ∨ (UNK ≤ cap ∧ base.isSome = true) then some (x, s) else none) else
    (firstA s.hp size n y).bind fun new =>
    match base with
    | none =>
      if len = 0 ∧ cap = 0 then
        let (id, s') := newA s e new
        some (.slice (some ⟨id, 0, none⟩) n (UNK + n), s')
      else none
    | some a =>
      if cap < UNK then
        if len + n ≤ cap then
          (writeA lk s.hp ⟨a.block, a.off + len * size, a.spot⟩ new).map fun h => (.slice base (len + n) cap, { s with hp := h })
        else
          (firstA s.hp size len x).map fun old =>
          let (id, s') := newA s e (old ++ new)
          (.slice (some ⟨id, 0, none⟩) (len + n) (UNK + (len + n)), s')
      else if len + n ≤ cap - UNK then
        (writeA lk s.hp ⟨a.block, a.off + len * size, a.spot⟩ new).map fun h => (.slice base (len + n) cap, { s with hp := h })
      else
        (firstA s.hp size len x).bind fun old =>
        match s.hp.get a.block with
        | some (.cells true e' _) =>
          if lk ≤ a.block ∧ e' = e ∧ new.all Value.oneCell' = true then
            let s1 : HS := { s with hp := s.hp.put a.block none }
            let (id, s') := newA s1 e (old ++ new)
            some (.slice (some ⟨id, 0, none⟩) (len + n) (UNK + (len + n)), s')
          else none
        | _ => none
  | _ => none

def copyA (P : Program) (lk : Nat) (t : TypeId) (x y : Value) (s : HS) : Option (Value × HS) :=
  match x with
  | .slice base len _ =>
    (elemA P t).bind fun e => (szA P e).bind fun size => (lenV y).bind fun m =>
    let n := Nat.min m len
    (firstA s.hp size n y).bind fun new =>
    match base with
    | none => some (.int .i64 n, s)
    | some a => if n = 0 then some (.int .i64 n, s) else (writeA lk s.hp a new).map fun h => (.int .i64 n, { s with hp := h })
  | _ => none

def clearA (P : Program) (lk : Nat) (t : TypeId) (x : Value) (s : HS) : Option (Value × HS) :=
  match P.underlying t, x with
  | some (.slice _), .slice none _ _ => some (.tuple #[], s)
  | some (.slice e), .slice (some a) n _ =>
    if n = 0 then some (.tuple #[], s) else
    (zeroA P e).bind fun z => if z.cells.toList.length = 0 then none else (writeA lk s.hp a (zerosL z.cells.toList n)).map fun h => (.tuple #[], { s with hp := h })
  | _, _ => none

def lenA (P : Program) (t : TypeId) (x : Value) (s : HS) : Option Value :=
  match P.underlying t, x with
  | some .string, .string b => some (.int .i64 b.size)
  | some (.array n _), _ => some (.int .i64 n)
  | some (.slice _), .slice _ n _ => some (.int .i64 n)
  | some (.map _ _), .map none => some (.int .i64 0)
  | some (.map _ _), .map (some r) => match s.hp.get r with | some (.map es) => some (.int .i64 es.length) | _ => none
  | _, _ => none

/-! ### Maps with keys of one cell -/
def findA (kind : TypeDesc) (k : Value) : List (Value × Value) → Nat → Option (Option (Nat × Value))
  | [], _ => some none
  | e :: es, i =>
    match Instr.sameNow kind k e.1 with
    | some true => some (some (i, e.2))
    | some false => findA kind k es (i + 1)
    | none => none

def keyOk (kind : TypeDesc) : Bool := match kind with | .int _ | .string | .bool => true | _ => false

def lookupA (P : Program) (t : TypeId) (x k : Value) (ok : Bool) (s : HS) : Option Value :=
  (mapA P t).bind fun (kt, et) => (P.underlying kt).bind fun kind => if keyOk kind then
    match x with
    | .map none => (zeroA P et).map fun z => if ok then .tuple #[z, .bool false] else z
    | .map (some r) =>
      match s.hp.get r with
      | some (.map es) => (findA kind k es 0).bind fun
        | some (_, v) => some (if ok then .tuple #[v, .bool true] else v)
        | none => (zeroA P et).map fun z => if ok then .tuple #[z, .bool false] else z
      | _ => none
    | _ => none
  else none

def mapUpdateA (P : Program) (lk : Nat) (t : TypeId) (m k v : Value) (s : HS) : Option HS :=
  (mapA P t).bind fun (kt, _) => (P.underlying kt).bind fun kind => if keyOk kind then
    match m with
    | .map (some r) => if lk ≤ r then
      match s.hp.get r with
      | some (.map es) => (findA kind k es 0).bind fun
        | some (i, _) => some { s with hp := s.hp.put r (some (.map (es.set i (k, v)))) }
        | none => some { s with hp := s.hp.put r (some (.map (es ++ [(k, v)]))) }
      | _ => none
      else none
    | _ => none
  else none

/-! ### The evaluator -/
structure Rec where
  loop : (lk sz : Nat) → Code → Fr → HS → Option (Sig × Fr × HS)
  call : (lk : Nat) → FuncId → List Value → HS → Option (Value × HS)
  round : (lk l : Nat) → List Value → HS → Option (Value × HS)

def callA (R : Rec) (lk : Nat) (f : Value) (args : List Value) (s : HS) : Option (Value × HS) :=
  match f with
  | .func (.func g) first captured => R.call lk g (first.toList ++ args ++ captured.toList) s
  | .func (.yield l) first captured => if first.toList = [] ∧ captured.toList = [] then R.round lk l args s else none
  | _ => none

def opdA (G : Nat) (fr : Fr) : Operand → Option Value
  | .tmp t => fr.get t
  | .const v => if plainN 3 v then some v else none
  | .global g => if g < G then some (.pointer (some ⟨g, 0, none⟩)) else none
  | .func f => some (.func (.func f) #[] #[])

def opdO (G : Nat) (fr : Fr) : Option Operand → Option (Option Value)
  | none => some none
  | some x => (opdA G fr x).map some

def builtinA (P : Program) (lk : Nat) (b : Builtin) (ts : List TypeId) (args : List Value) (s : HS) : Option (Value × HS) :=
  match b, ts, args with
  | .append, t :: u :: _, x :: y :: _ => match P.underlying u with | some (.int _) => none | some _ => appendA P lk t x y s | none => none
  | .copy, t :: _, x :: y :: _ => copyA P lk t x y s
  | .clear, t :: _, x :: _ => clearA P lk t x s
  | .len, t :: _, x :: _ => (lenA P t x s).map fun v => (v, s)
  | .max, _, [.int k x, .int _ y] => some (.int k (if y > x then y else x), s)
  | .min, _, [.int k x, .int _ y] => some (.int k (if y < x then y else x), s)
  | _, _, _ => none

def val (s : HS) (v : Option Value) : Option (Value × HS) := v.map fun v => (v, s)

def opA (P : Program) (R : Rec) (lk : Nat) (fr : Fr) (s : HS) (o : Oper) : Option (Value × HS) :=
  let e := opdA P.globals.size fr
  match o.op with
  | .move x | .assign x => val s (e x)
  | .pick c a b => (e c).bind fun | .bool t => val s (if t then e a else e b) | _ => none
  | .alloc t => (zeroA P t).bind fun z => (szA P t).map fun _ => let (id, s') := newA s t z.cells.toList; (.pointer (some ⟨id, 0, none⟩), s')
  | .box t x => (e x).bind fun v => (szA P t).map fun _ => let (id, s') := newA s t v.cells.toList; (.pointer (some ⟨id, 0, none⟩), s')
  | .build t ps => (omap (fun (p : Nat × Operand) => (e p.2).map fun v => (p.1, v)) ps.toList).bind fun ps => val s (buildA P t ps)
  | .buildSlice t n ps => (omap (fun (p : Nat × Operand) => (e p.2).map fun v => (p.1, v)) ps.toList).bind fun ps => buildSliceA P t n ps s
  | .load t a => (e a).bind fun a => val s (loadV P s.hp t a)
  | .store t a x => (e a).bind fun a => (e x).bind fun v => (storeV P lk s t a v).map fun s' => (undef, s')
  | .nilCheck x => (e x).bind fun
    | .pointer (some a) => some (.pointer (some a), s)
    | .func (.func g) fi ca => some (.func (.func g) fi ca, s)
    | .func (.yield g) fi ca => some (.func (.yield g) fi ca, s)
    | _ => none
  | .binOp op t x y _ => (e x).bind fun x => (e y).bind fun y => val s (binA P op t x y)
  | .unOp op _ x => (e x).bind fun x => val s (unA op x)
  | .convert a b x => (e x).bind fun x => val s (convA P a b x)
  | .makeFunc (.func g) fi ca => (omap e fi.toList).bind fun fi => (omap e ca.toList).bind fun ca => some (.func (.func g) fi.toArray ca.toArray, s)
  | .makeMap _ none => let s' : HS := { hp := s.hp.put s.nx (some (.map [])), nx := s.nx + 1 }; some (.map (some s.nx), s')
  | .makeSlice t l c => (e l).bind fun l => (e c).bind fun c => makeSliceA P t l c s
  | .slice t x lo hi mx => (e x).bind fun x => (opdO P.globals.size fr lo).bind fun lo => (opdO P.globals.size fr hi).bind fun hi =>
      (opdO P.globals.size fr mx).bind fun mx => val s (sliceA P s.hp t x lo hi mx)
  | .fieldAddr t x f => (e x).bind fun x => val s (fieldAddrA P t x f)
  | .field t x f => (e x).bind fun x => val s (fieldValA P t x f)
  | .indexAddr t x i => (e x).bind fun x => (e i).bind fun i => val s (indexAddrA P t x i)
  | .index t x i => (e x).bind fun x => (e i).bind fun i => val s (indexA P t x i)
  | .lookup t x k ok => (e x).bind fun x => (e k).bind fun k => val s (lookupA P t x k ok s)
  | .mapUpdate t m k v => (e m).bind fun m => (e k).bind fun k => (e v).bind fun v => (mapUpdateA P lk t m k v s).map fun s' => (undef, s')
  | .extract t i => (e t).bind fun | .tuple vs => val s (vs.toList[i]?) | _ => none
  | .call c =>
    (omap e c.args.toList).bind fun args =>
    match c.callee with
    | .builtin b => builtinA P lk b c.argTypes.toList args s
    | .value f => (e f).bind fun f => callA R lk f args s
    | .invoke _ _ => none
  | _ => none

def setA (sz : Nat) (fr : Fr) (d : Option Tmp) (v : Value) : Option Fr :=
  match d with
  | none => some fr
  | some t => if t < sz then some (fr.put t (some v)) else none

/-- Is the operation carried out? -/
def wantedA (ops : List Oper) (fr : Fr) (o : Oper) : Option Bool :=
  match o.guard with
  | none => some true
  | some (j, want) => (ops[j]?).bind fun g => g.dst.bind fun d => (fr.get d).map fun
    | .bool b => b == want
    | _ => false

def stepA (P : Program) (R : Rec) (lk sz : Nat) (ops : List Oper) (fr : Fr) (s : HS) (o : Oper) : Option (Fr × HS) :=
  (wantedA ops fr o).bind fun w =>
  if w then (opA P R lk fr s o).bind fun (v, s') => (setA sz fr o.dst v).map fun fr' => (fr', s')
  else (setA sz fr o.dst undef).map fun fr' => (fr', s)

def opsA (P : Program) (R : Rec) (lk sz : Nat) (ops : List Oper) : List Oper → Fr → HS → Option (Fr × HS)
  | [], fr, s => some (fr, s)
  | o :: os, fr, s => (stepA P R lk sz ops fr s o).bind fun (fr', s') => opsA P R lk sz ops os fr' s'

/-! A region that draws its order. -/
def loudA : Op → Bool
  | .move _ | .assign _ | .pick .. | .build .. | .binOp .. | .unOp .. | .convert .. | .makeFunc .. | .fieldAddr .. | .field .. | .indexAddr .. | .index .. | .extract .. | .nilCheck _ => false
  | _ => true

structure PlanRow where
  /-- it stands in line with all that touches memory: it may write -/
  bar : Bool
  /-- what stands ahead of it in the text, touches memory and may come behind it -/
  beside : List Nat
  /-- a load that no one disturbs, with all such loads -/
  quiet : Option (List Nat)

def isLoad : Op → Bool
  | .load .. => true
  | _ => false
def isApp : Op → Bool
  | .call ⟨.builtin .append, _, _⟩ => true
  | _ => false
/-- A load that may come behind an append that stands behind it in the text; what writes and stands ahead of it comes ahead of it. -/
def quietA (ops : List Oper) (b : Array Nat) (j : Nat) : Bool :=
  ((ops[j]?).any fun o => isLoad o.op && o.guard.isNone) &&
  (((List.range ops.length).any fun i => Nat.blt j i && !(b.getD i 0).testBit j && (ops[i]?).any fun o => isApp o.op) &&
  ((List.range ops.length).all fun k => !(Nat.blt k j) || (b.getD j 0).testBit k || (ops[k]?).all fun o => !loudA o.op || isLoad o.op))
def quietsA (ops : List Oper) (b : Array Nat) : List Nat := (List.range ops.length).filter (quietA ops b)

def rowA (ops : List Oper) (b : Array Nat) (qs : List Nat) (k : Nat) : PlanRow :=
  let loud := (List.range ops.length).filter fun j => ((ops[j]?).any fun o => loudA o.op) && !qs.contains j
  let bar := loud.all fun j => j == k || (b.getD k 0).testBit j || (b.getD j 0).testBit k
  { bar := bar,
    beside := bif (ops[k]?).any (fun o => loudA o.op) then ((loud ++ (bif bar then qs else [])).filter fun j => Nat.blt j k && !(b.getD k 0).testBit j) else [],
    quiet := bif qs.contains k then some qs else none }

/-- May the region be carried out in any order that its edges allow? -/
def drawOk (ops : Array Oper) : Bool :=
  let b := Region.before ops
  ((List.range ops.size).all fun i => (ops[i]?).all fun o =>
    (o.after.all fun e => !Region.binds .any e || Nat.blt e.on i) &&
    (match o.guard with | none => true | some (j, _) => (b.getD i 0).testBit j && Nat.blt j i) &&
    (match o.op with | .select .. => false | _ => true)) &&
  ((List.range ops.size).all fun j => (List.range j).all fun i => (b.getD j 0).testBit i ||
    ((ops[i]?).all fun x => (ops[j]?).all fun y => x.apart ops y))

def planA (ops : Array Oper) : Option (List PlanRow) :=
  if drawOk ops then some ((List.range ops.size).map (rowA ops.toList (Region.before ops) (quietsA ops.toList (Region.before ops)))) else none

/-- The heap without the blocks of some intervals. -/
def hideA (h : T AObj) : List (Nat × Nat) → T AObj
  | [] => h
  | (lo, hi) :: r => hideA ((List.range (hi - lo)).foldl (fun h i => h.put (lo + i) none) h) r
/-- The heap h with the blocks of some intervals as they lie in g. -/
def unhideA (g h : T AObj) : List (Nat × Nat) → T AObj
  | [] => h
  | (lo, hi) :: r => unhideA g ((List.range (hi - lo)).foldl (fun h i => h.put (lo + i) (g.get (lo + i))) h) r

/-- The block that a load reads. -/
def loadBlk (G : Nat) (fr : Fr) (o : Oper) : Option Nat :=
  match o.op with
  | .load _ a => match opdA G fr a with | some (.pointer (some ad)) => some ad.block | _ => none
  | _ => none
/-- A load that no one disturbs is noted with its block, which is none of the region's own. -/
def noteA (G : Nat) (p : PlanRow) (k : Nat) (fr : Fr) (o : Oper) (made : List (Nat × Nat × Nat)) : Option (List (Nat × Nat × Nat)) :=
  match p.quiet with
  | none => some made
  | some qs => (loadBlk G fr o).bind fun b => if made.all (fun m => qs.contains m.1 || !(Nat.ble m.2.1 b && Nat.blt b m.2.2)) = true then some ((k, b, b + 1) :: made) else none

/-- made: which operation has made which blocks; which block a load reads that no one may disturb. -/
def drawA (P : Program) (R : Rec) (lk sz : Nat) (ops : List Oper) : List Oper → List PlanRow → Nat → List (Nat × Nat × Nat) → Fr → HS → Option (Fr × HS)
  | o :: os, p :: ps, k, made, fr, s =>
    let bad := (made.filter fun m => p.beside.contains m.1).map (·.2)
    let s0 : HS := match bad with | [] => s | _ => { s with hp := hideA s.hp bad }
    (stepA P R (if p.bar then lk else s.nx) sz ops fr s0 o).bind fun (fr', s1) =>
    let s' : HS := match bad with | [] => s1 | _ => { s1 with hp := unhideA s.hp s1.hp bad }
    (noteA P.globals.size p k fr o (if s.nx < s'.nx then (k, s.nx, s'.nx) :: made else made)).bind fun made' =>
    drawA P R lk sz ops os ps (k + 1) made' fr' s'
  | [], [], _, _, fr, s => some (fr, s)
  | _, _, _, _, _, _ => none

def codeA (P : Program) (R : Rec) (lk sz : Nat) : Code → Fr → HS → Option (Sig × Fr × HS)
  | .skip, fr, s => some (.normal, fr, s)
  | .label _, fr, s => some (.normal, fr, s)
  | .region _ ops false, fr, s => (opsA P R lk sz ops.toList ops.toList fr s).map fun (fr', s') => (.normal, fr', s')
  | .region _ ops true, fr, s => (planA ops).bind fun pl => (drawA P R lk sz ops.toList ops.toList pl 0 [] fr s).map fun (fr', s') => (.normal, fr', s')
  | .seq a b, fr, s => (codeA P R lk sz a fr s).bind fun
    | (.normal, fr', s') => codeA P R lk sz b fr' s'
    | r => some r
  | .cond c a b, fr, s => (opdA P.globals.size fr c).bind fun
    | .bool t => if t then codeA P R lk sz a fr s else codeA P R lk sz b fr s
    | _ => none
  | .block id c, fr, s => (codeA P R lk sz c fr s).map fun
    | (.exit i, fr', s') => if i = id then (.normal, fr', s') else (.exit i, fr', s')
    | r => r
  | .loop c, fr, s => R.loop lk sz c fr s
  | .exit id, fr, s => some (.exit id, fr, s)
  | .ret, fr, s => some (.ret, fr, s)
  | .rangeFunc f ps assign body, fr, s =>
    (opdA P.globals.size fr f).bind fun fv =>
    let s1 : HS := { hp := s.hp.put s.nx (some (.loop { fr, sz, params := ps, assign, body, state := .ready, pending := none })), nx := s.nx + 1 }
    (match fv with | .func (.func g) fi ca => R.call lk g (fi.toList ++ [Value.func (Fn.yield s.nx) #[] #[]] ++ ca.toList) s1 | _ => none).bind fun (_, s2) =>
    match s2.hp.get s.nx with
    | some (.loop L) =>
      let s3 : HS := { s2 with hp := s2.hp.put s.nx none }
      match L.state, L.pending with
      | .busy, _ => none
      | _, none => some (.normal, fr, s3)
      | _, some .ret => some (.ret, fr, s3)
      | _, some (.exit id) => some (.exit id, fr, s3)
      | _, _ => none
    | _ => none
  | _, _, _ => none

def resA (P : Program) (fr : Fr) (h : T AObj) : ResultVar → Option Value
  | .tmp t => fr.get t
  | .cell a t => (fr.get a).bind (loadV P h t)

def packR (vs : List Value) : Value := match vs with | [v] => v | vs => .tuple vs.toArray

def paramsA (fr : Fr) : List Value → Nat → Fr
  | [], _ => fr
  | v :: vs, i => paramsA (fr.put i (some v)) vs (i + 1)

def callFA (P : Program) (R : Rec) (lk : Nat) (f : FuncId) (args : List Value) (s : HS) : Option (Value × HS) :=
  match P.funcs[f]? with
  | none => none
  | some fn =>
    match fn.body with
    | none => none
    | some c =>
      if fn.name = "runtime.NumGoroutine" ∨ fn.ntmps < args.length then none else
      (codeA P R lk fn.ntmps c (paramsA .nil args 0) s).bind fun
        | (.exit _, _, _) => none
        | (_, fr, s') => (omap (resA P fr s'.hp) fn.results.toList).map fun vs => (packR vs, s')

def parA (fr : Fr) (sz : Nat) : List (Tmp × Value) → Option Fr
  | [] => some fr
  | (t, v) :: r => if t < sz then parA (fr.put t (some v)) sz r else none

def loopAt (h : T AObj) (l : Nat) : Option ALoop := match h.get l with | some (.loop L) => some L | _ => none

def roundFA (P : Program) (R : Rec) (lk l : Nat) (args : List Value) (s : HS) : Option (Value × HS) :=
  if ¬ lk ≤ l then none else
  (loopAt s.hp l).bind fun L =>
  if args.length ≠ L.params.toList.length then none else
  (parA L.fr L.sz (L.params.toList.zip args)).bind fun fr =>
  (codeA P R lk L.sz L.assign fr s).bind fun
    | (.normal, fr1, s1) =>
      (loopAt s1.hp l).bind fun L1 =>
      match L1.state with
      | .ready =>
        (codeA P R lk L.sz L.body fr1 { s1 with hp := s1.hp.put l (some (.loop { L1 with state := .busy })) }).bind fun (sig, _, s2) =>
        (loopAt s2.hp l).bind fun L2 =>
        match sig with
        | .normal => some (.bool true, { s2 with hp := s2.hp.put l (some (.loop { L2 with state := .ready, pending := none })) })
        | .ret => some (.bool false, { s2 with hp := s2.hp.put l (some (.loop { L2 with state := .done, pending := some .ret })) })
        | .exit id => some (.bool false, { s2 with hp := s2.hp.put l (some (.loop { L2 with state := .done, pending := some (.exit id) })) })
      | _ => none
    | _ => none

def loopFA (P : Program) (R : Rec) (lk sz : Nat) (c : Code) (fr : Fr) (s : HS) : Option (Sig × Fr × HS) :=
  (codeA P R lk sz c fr s).bind fun
    | (.normal, fr', s') => R.loop lk sz c fr' s'
    | r => some r

/-- One level more of calls, rounds and loops. -/
def nextR (P : Program) (R : Rec) : Rec := { loop := fun lk sz c fr s => loopFA P R lk sz c fr s, call := fun lk f as s => callFA P R lk f as s, round := fun lk l as s => roundFA P R lk l as s }
/-- The evaluator by itself. -/
def ev0 (P : Program) : Nat → Rec
  | 0 => { loop := fun _ _ _ _ _ => none, call := fun _ _ _ _ => none, round := fun _ _ _ _ => none }
  | n + 1 => nextR P (ev0 P n)

end Go.Ev
