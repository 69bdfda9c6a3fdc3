/- How the clean state and the model's world go together. -/
import Derived.Test.YthedojfbofcefaaDoorEvDef
namespace Go.Ev
open Go

/-- Where a clean block lies: the block, from which cell on, how many cells, how many an element has. -/
structure Img where
  blk : Nat
  sh : Nat
  ext : Nat
  esz : Nat
abbrev Inj := Nat → Option Img

inductive FnR (φ : Inj) : Fn → Fn → Prop
  | func (f) : FnR φ (.func f) (.func f)
  | yield (l im) (h : φ l = some im) : FnR φ (.yield l) (.yield im.blk)

inductive VR (φ : Inj) : Value → Value → Prop
  | bool (b) : VR φ (.bool b) (.bool b)
  | int (k n) : VR φ (.int k n) (.int k n)
  | float (k n) : VR φ (.float k n) (.float k n)
  | complex (k a b) : VR φ (.complex k a b) (.complex k a b)
  | string (s) : VR φ (.string s) (.string s)
  | nilptr : VR φ (.pointer none) (.pointer none)
  | ptr (id off im) (h : φ id = some im) : VR φ (.pointer (some ⟨id, off, none⟩)) (.pointer (some ⟨im.blk, im.sh + off, none⟩))
  | nilslice (l c) : VR φ (.slice none l c) (.slice none l c)
  | slice (id off len cap im) (h : φ id = some im) (hc : cap < UNK) : VR φ (.slice (some ⟨id, off, none⟩) len cap) (.slice (some ⟨im.blk, im.sh + off, none⟩) len cap)
  | sliceU (id off len cap cap' im) (h : φ id = some im) (hc : UNK ≤ cap) (h1 : cap - UNK ≤ cap') (h2 : len ≤ cap') (h3 : off + cap' * im.esz ≤ im.ext) :
      VR φ (.slice (some ⟨id, off, none⟩) len cap) (.slice (some ⟨im.blk, im.sh + off, none⟩) len cap')
  | sliceE (id off o' im) (h : φ id = some im) : VR φ (.slice (some ⟨id, off, none⟩) 0 UNK) (.slice (some ⟨im.blk, o', none⟩) 0 0)
  | nilmap : VR φ (.map none) (.map none)
  | map (r im) (h : φ r = some im) : VR φ (.map (some r)) (.map (some im.blk))
  | nilchan : VR φ (.chan none) (.chan none)
  | func (fn fn' fi fi' ca ca') (hf : FnR φ fn fn') (s1 : fi.size = fi'.size) (h1 : ∀ (i : Nat) (v v' : Value), fi[i]? = some v → fi'[i]? = some v' → VR φ v v')
      (s2 : ca.size = ca'.size) (h2 : ∀ (i : Nat) (v v' : Value), ca[i]? = some v → ca'[i]? = some v' → VR φ v v') : VR φ (.func fn fi ca) (.func fn' fi' ca')
  | nilFunc : VR φ .nilFunc .nilFunc
  | nilIface : VR φ .nilIface .nilIface
  | iface (t v v') (h : VR φ v v') : VR φ (.iface t v) (.iface t v')
  | agg (cs ds) (s : cs.size = ds.size) (h : ∀ (i : Nat) (v v' : Value), cs[i]? = some v → ds[i]? = some v' → VR φ v v') : VR φ (.agg cs) (.agg ds)
  | tuple (cs ds) (s : cs.size = ds.size) (h : ∀ (i : Nat) (v v' : Value), cs[i]? = some v → ds[i]? = some v' → VR φ v v') : VR φ (.tuple cs) (.tuple ds)

def LR (φ : Inj) (xs ys : List Value) : Prop := xs.length = ys.length ∧ ∀ (i : Nat) (v v' : Value), xs[i]? = some v → ys[i]? = some v' → VR φ v v'

def Sub (φ φ' : Inj) : Prop := ∀ id im, φ id = some im → φ' id = some im
theorem Sub.refl (φ : Inj) : Sub φ φ := fun _ _ h => h
theorem Sub.trans {φ φ' φ'' : Inj} (h : Sub φ φ') (h' : Sub φ' φ'') : Sub φ φ'' := fun id im e => h' id im (h id im e)

theorem FnR.mono {φ φ' : Inj} (h : Sub φ φ') {f g : Fn} (r : FnR φ f g) : FnR φ' f g := by
  cases r with
  | func f => exact .func f
  | yield l im e => exact .yield l im (h _ _ e)

theorem VR.mono {φ φ' : Inj} (h : Sub φ φ') {v v' : Value} (r : VR φ v v') : VR φ' v v' := by
  induction r with
  | bool b => exact .bool b
  | int k n => exact .int k n
  | float k n => exact .float k n
  | complex k a b => exact .complex k a b
  | string s => exact .string s
  | nilptr => exact .nilptr
  | ptr id off im e => exact .ptr id off im (h _ _ e)
  | nilslice l c => exact .nilslice l c
  | slice id off len cap im e hc => exact .slice id off len cap im (h _ _ e) hc
  | sliceU id off len cap cap' im e hc h1 h2 h3 => exact .sliceU id off len cap cap' im (h _ _ e) hc h1 h2 h3
  | sliceE id off o' im e => exact .sliceE id off o' im (h _ _ e)
  | nilmap => exact .nilmap
  | map r im e => exact .map r im (h _ _ e)
  | nilchan => exact .nilchan
  | func fn fn' fi fi' ca ca' hf s1 h1 s2 h2 ih1 ih2 => exact .func _ _ _ _ _ _ (hf.mono h) s1 ih1 s2 ih2
  | nilFunc => exact .nilFunc
  | nilIface => exact .nilIface
  | iface t v v' _ ih => exact .iface t v v' ih
  | agg cs ds s _ ih => exact .agg cs ds s ih
  | tuple cs ds s _ ih => exact .tuple cs ds s ih

theorem LR.mono {φ φ' : Inj} (h : Sub φ φ') {xs ys : List Value} (r : LR φ xs ys) : LR φ' xs ys := ⟨r.1, fun i v v' a b => (r.2 i v v' a b).mono h⟩

theorem LR.nil (φ : Inj) : LR φ [] [] := ⟨rfl, fun i v v' h => by simp at h⟩
theorem LR.cons {φ : Inj} {x y : Value} {xs ys : List Value} (h : VR φ x y) (hs : LR φ xs ys) : LR φ (x :: xs) (y :: ys) := by
  refine ⟨by simp [hs.1], fun i v v' a b => ?_⟩
  cases i with
  | zero => simp at a b; subst a b; exact h
  | succ i => simp at a b; exact hs.2 i v v' a b
theorem LR.head {φ : Inj} {x y : Value} {xs ys : List Value} (h : LR φ (x :: xs) (y :: ys)) : VR φ x y := h.2 0 x y rfl rfl
theorem LR.tail {φ : Inj} {x y : Value} {xs ys : List Value} (h : LR φ (x :: xs) (y :: ys)) : LR φ xs ys :=
  ⟨by simpa using h.1, fun i v v' a b => h.2 (i + 1) v v' (by simpa using a) (by simpa using b)⟩
theorem LR.nil_inv {φ : Inj} {ys : List Value} (h : LR φ [] ys) : ys = [] := by
  have := h.1; cases ys with
  | nil => rfl
  | cons y ys => simp at this
theorem LR.cons_inv {φ : Inj} {x : Value} {xs ys : List Value} (h : LR φ (x :: xs) ys) : ∃ y ys', ys = y :: ys' ∧ VR φ x y ∧ LR φ xs ys' := by
  cases ys with
  | nil => have := h.1; simp at this
  | cons y ys => exact ⟨y, ys, rfl, h.head, h.tail⟩
theorem LR.append {φ : Inj} {xs ys us vs : List Value} (h : LR φ xs ys) (k : LR φ us vs) : LR φ (xs ++ us) (ys ++ vs) := by
  refine ⟨by simp [h.1, k.1], fun i v v' a b => ?_⟩
  by_cases hi : i < xs.length
  · rw [List.getElem?_append_left hi] at a
    rw [List.getElem?_append_left (h.1 ▸ hi)] at b
    exact h.2 i v v' a b
  · rw [List.getElem?_append_right (by omega)] at a
    rw [List.getElem?_append_right (by have := h.1; omega)] at b
    exact k.2 (i - xs.length) v v' a (by rw [h.1]; exact b)
theorem LR.get {φ : Inj} {xs ys : List Value} (h : LR φ xs ys) {i : Nat} {v : Value} (e : xs[i]? = some v) : ∃ v', ys[i]? = some v' ∧ VR φ v v' := by
  have hi : i < ys.length := by
    have := (List.getElem?_eq_some_iff.1 e).1
    have := h.1; omega
  exact ⟨ys[i], List.getElem?_eq_getElem hi, h.2 i v _ e (List.getElem?_eq_getElem hi)⟩
theorem LR.get_none {φ : Inj} {xs ys : List Value} (h : LR φ xs ys) {i : Nat} (e : xs[i]? = none) : ys[i]? = none := by
  have := h.1; rw [List.getElem?_eq_none_iff] at *; omega
theorem LR.take {φ : Inj} {xs ys : List Value} (h : LR φ xs ys) (n : Nat) : LR φ (xs.take n) (ys.take n) := by
  refine ⟨by simp [h.1], fun i v v' a b => ?_⟩
  rw [List.getElem?_take] at a b
  split at a
  · rename_i hi; rw [if_pos hi] at b; exact h.2 i v v' a b
  · simp at a
theorem LR.drop {φ : Inj} {xs ys : List Value} (h : LR φ xs ys) (n : Nat) : LR φ (xs.drop n) (ys.drop n) := by
  refine ⟨by simp [h.1], fun i v v' a b => ?_⟩
  rw [List.getElem?_drop] at a b
  exact h.2 _ v v' a b
theorem LR.of_arrays {φ : Inj} {cs ds : Array Value} (s : cs.size = ds.size) (h : ∀ (i : Nat) (v v' : Value), cs[i]? = some v → ds[i]? = some v' → VR φ v v') : LR φ cs.toList ds.toList :=
  ⟨by simpa using s, fun i v v' a b => h i v v' (by simpa using a) (by simpa using b)⟩
theorem VR.agg' {φ : Inj} {xs ys : List Value} (h : LR φ xs ys) : VR φ (.agg xs.toArray) (.agg ys.toArray) :=
  .agg _ _ (by simpa using h.1) (fun i v v' a b => h.2 i v v' (by simpa using a) (by simpa using b))
theorem VR.tuple' {φ : Inj} {xs ys : List Value} (h : LR φ xs ys) : VR φ (.tuple xs.toArray) (.tuple ys.toArray) :=
  .tuple _ _ (by simpa using h.1) (fun i v v' a b => h.2 i v v' (by simpa using a) (by simpa using b))

theorem VR.cells {φ : Inj} {v v' : Value} (h : VR φ v v') : LR φ v.cells.toList v'.cells.toList := by
  have h0 := h
  cases h with
  | agg cs ds s h => exact LR.of_arrays s h
  | _ => exact LR.cons h0 (LR.nil φ)

theorem VR.one {φ : Inj} {v v' : Value} (h : VR φ v v') : v'.oneCell' = v.oneCell' := by cases h <;> rfl

theorem VR.plain {φ : Inj} : ∀ (n : Nat) (v : Value), plainN n v = true → VR φ v v := by
  intro n
  induction n with
  | zero =>
    intro v h
    cases v with
    | bool b => exact .bool b
    | int k n => exact .int k n
    | float k n => exact .float k n
    | complex k a b => exact .complex k a b
    | string s => exact .string s
    | pointer a => cases a with | none => exact .nilptr | some a => simp [plainN] at h
    | slice a l c => cases a with | none => exact .nilslice l c | some a => simp [plainN] at h
    | map r => cases r with | none => exact .nilmap | some r => simp [plainN] at h
    | chan r => cases r with | none => exact .nilchan | some r => simp [plainN] at h
    | func f a b => simp [plainN] at h
    | nilFunc => exact .nilFunc
    | iface t v => simp [plainN] at h
    | nilIface => exact .nilIface
    | agg cs => simp [plainN] at h
    | tuple cs => simp [plainN] at h
  | succ n ih =>
    intro v h
    have key : ∀ cs : Array Value, cs.toList.all (plainN n) = true → ∀ (i : Nat) (v v' : Value), cs[i]? = some v → cs[i]? = some v' → VR φ v v' := by
      intro cs hc i v v' a b
      rw [a] at b; cases b
      refine ih v ?_
      rw [List.all_eq_true] at hc
      exact hc v (by simpa using Array.mem_of_getElem? a)
    cases v with
    | bool b => exact .bool b
    | int k n => exact .int k n
    | float k n => exact .float k n
    | complex k a b => exact .complex k a b
    | string s => exact .string s
    | pointer a => cases a with | none => exact .nilptr | some a => simp [plainN] at h
    | slice a l c => cases a with | none => exact .nilslice l c | some a => simp [plainN] at h
    | map r => cases r with | none => exact .nilmap | some r => simp [plainN] at h
    | chan r => cases r with | none => exact .nilchan | some r => simp [plainN] at h
    | func f a b => simp [plainN] at h
    | nilFunc => exact .nilFunc
    | iface t v => exact .iface t v v (ih v (by simpa [plainN] using h))
    | nilIface => exact .nilIface
    | agg cs => exact .agg cs cs rfl (key cs (by simpa [plainN] using h))
    | tuple cs => exact .tuple cs cs rfl (key cs (by simpa [plainN] using h))

/-! ### Memory -/
/-- The clean frame and the model's temporaries. -/
def FrR (φ : Inj) (sz : Nat) (fr : Fr) (tmps : Array Value) : Prop := tmps.size = sz ∧ ∀ t v, fr.get t = some v → ∃ v', tmps[t]? = some v' ∧ VR φ v v'

theorem FrR.mono {φ φ' : Inj} (h : Sub φ φ') {sz : Nat} {fr : Fr} {tmps : Array Value} (r : FrR φ sz fr tmps) : FrR φ' sz fr tmps :=
  ⟨r.1, fun t v e => let ⟨v', a, b⟩ := r.2 t v e; ⟨v', a, b.mono h⟩⟩

theorem FrR.put {φ : Inj} {sz : Nat} {fr : Fr} {tmps : Array Value} (r : FrR φ sz fr tmps) {t : Nat} {v v' : Value} (ht : t < sz) (h : VR φ v v') :
    FrR φ sz (fr.put t (some v)) (tmps.setIfInBounds t v') := by
  refine ⟨by simp [r.1], fun u x e => ?_⟩
  rw [T.get_put] at e
  by_cases hu : u = t
  · subst hu; rw [if_pos rfl] at e; cases e
    exact ⟨v', by rw [Array.getElem?_setIfInBounds_self_of_lt (by rw [r.1]; exact ht)], h⟩
  · rw [if_neg hu] at e
    obtain ⟨x', a, b⟩ := r.2 u x e
    exact ⟨x', by rw [Array.getElem?_setIfInBounds_ne (Ne.symm hu)]; exact a, b⟩

def LoopR (φ : Inj) (L : ALoop) (r : Loop) : Prop :=
  r.state = L.state ∧ r.pending = L.pending ∧ r.params = L.params ∧ r.assign = L.assign ∧ r.body = L.body ∧ FrR φ L.sz L.fr r.tmps

/-- What a block of the heap holds, seen as a clean object. -/
def OR (P : Program) (φ : Inj) (im : Img) (ob : Option Obj) : AObj → Prop
  | .cells wr e cs => szA P e = some im.esz ∧ ∃ c fz, ob = some (.cells c e fz) ∧ im.sh + im.ext = c.size ∧ cs.length ≤ im.ext ∧
      (∀ (i : Nat) (v : Value), cs[i]? = some v → ∃ v', c[im.sh + i]? = some v' ∧ VR φ v v') ∧ (wr = true → ∀ j, im.sh ≤ j → ¬ (fz.1 ≤ j ∧ j < fz.2))
  | .map es => ∃ es' clock, ob = some (.map es' clock) ∧ es'.size = es.length ∧ ∀ (i : Nat) k v, es[i]? = some (k, v) → ∃ e : MapEntry, es'[i]? = some e ∧ VR φ k e.key ∧ VR φ v e.val
  | .loop L => ∃ r, ob = some (.loop r) ∧ LoopR φ L r

theorem OR.mono {P : Program} {φ φ' : Inj} (h : Sub φ φ') {im : Img} {ob : Option Obj} {o : AObj} (r : OR P φ im ob o) : OR P φ' im ob o := by
  cases o with
  | cells wr e cs =>
    obtain ⟨h0, c, fz, h1, h2, h3, h4, h5⟩ := r
    exact ⟨h0, c, fz, h1, h2, h3, fun i v e => let ⟨v', a, b⟩ := h4 i v e; ⟨v', a, b.mono h⟩, h5⟩
  | map es =>
    obtain ⟨es', clock, h1, h2, h3⟩ := r
    exact ⟨es', clock, h1, h2, fun i k v e => let ⟨x, a, b, c⟩ := h3 i k v e; ⟨x, a, b.mono h, c.mono h⟩⟩
  | loop L =>
    obtain ⟨r, h1, a, b, c, d, e, f⟩ := r
    exact ⟨r, h1, a, b, c, d, e, f.mono h⟩

/-- May a block be written? -/
def wrO : AObj → Bool
  | .cells wr _ _ => wr
  | _ => true
def Wr (h : Nat → Option AObj) (id : Nat) : Prop := ∃ o, h id = some o ∧ wrO o = true
theorem Wr.ne {h : Nat → Option AObj} {id : Nat} (w : Wr h id) : h id ≠ none := by obtain ⟨o, h1, _⟩ := w; rw [h1]; simp
theorem Wr.of_eq {h g : Nat → Option AObj} {id : Nat} (e : h id = g id) (w : Wr h id) : Wr g id := by obtain ⟨o, h1, h2⟩ := w; exact ⟨o, by rw [← e]; exact h1, h2⟩

/-- The blocks h (names below nx) and the model's heap. Blocks that may not be written may lie in one. -/
structure HRF (P : Program) (φ : Inj) (h : Nat → Option AObj) (nx : Nat) (w : World) : Prop where
  obj : ∀ id o, h id = some o → ∃ im, φ id = some im ∧ OR P φ im (w.heap[im.blk]?) o
  inj : ∀ i j oi oj mi mj, h i = some oi → h j = some oj → φ i = some mi → φ j = some mj → i ≠ j → (wrO oi = true ∨ wrO oj = true) → mi.blk ≠ mj.blk
  bnd : ∀ id o, h id = some o → id < nx
  glob : ∀ g, g < P.globals.size → ∃ im, φ g = some im ∧ im.blk = g ∧ im.sh = 0
  nxg : P.globals.size ≤ nx

abbrev HR (P : Program) (φ : Inj) (s : HS) (w : World) : Prop := HRF P φ s.hp.get s.nx w

theorem HR.lt {P : Program} {φ : Inj} {s : HS} {w : World} (h : HR P φ s w) {id : Nat} {o : AObj} {im : Img} (e : s.hp.get id = some o) (hi : φ id = some im) : im.blk < w.heap.size := by
  obtain ⟨im', h1, h2⟩ := h.obj id o e
  rw [hi] at h1; cases h1
  have : ∃ x, w.heap[im.blk]? = some x := by
    cases o with
    | cells wr e cs => obtain ⟨_, c, fz, h1, _⟩ := h2; exact ⟨_, h1⟩
    | map es => obtain ⟨es', clock, h1, _⟩ := h2; exact ⟨_, h1⟩
    | loop L => obtain ⟨r, h1, _⟩ := h2; exact ⟨_, h1⟩
  obtain ⟨x, hx⟩ := this
  exact (Array.getElem?_eq_some_iff.1 hx).1

/-- What a run may have done. lk: the blocks below it are left alone. -/
structure Post (P : Program) (φ : Inj) (lk : Nat) (s : HS) (w : World) (φ' : Inj) (s' : HS) (w' : World) : Prop where
  ext : Sub φ φ'
  out : ∀ id, id < s.nx ∨ s'.nx ≤ id → φ' id = φ id
  rel : HR P φ' s' w'
  nx : s.nx ≤ s'.nx
  live : ∀ id, id < s.nx → s'.hp.get id ≠ none → s.hp.get id ≠ none
  livw : ∀ id, id < s.nx → Wr s'.hp.get id → Wr s.hp.get id
  lock : ∀ id, id < lk → s'.hp.get id = s.hp.get id
  keep : ∀ id L, s.hp.get id = some (.loop L) → ∃ L', s'.hp.get id = some (.loop L')
  os : w'.os = w.os
  tape : w'.tape = w.tape
  output : w'.output = w.output
  size : w.heap.size ≤ w'.heap.size
  frame : ∀ r, r < w.heap.size → (∀ id im, lk ≤ id → Wr s.hp.get id → φ id = some im → im.blk ≠ r) → w'.heap[r]? = w.heap[r]?
  news : ∀ id im, s.nx ≤ id → s'.hp.get id ≠ none → φ' id = some im → w.heap.size ≤ im.blk ∨ ∃ i0 m0, lk ≤ i0 ∧ Wr s.hp.get i0 ∧ φ i0 = some m0 ∧ m0.blk = im.blk

theorem Post.refl {P : Program} {φ : Inj} {lk : Nat} {s : HS} {w : World} (h : HR P φ s w) : Post P φ lk s w φ s w where
  ext := Sub.refl φ
  out := fun _ _ => rfl
  rel := h
  nx := Nat.le_refl _
  live := fun _ _ h => h
  livw := fun _ _ h => h
  lock := fun _ _ => rfl
  keep := fun _ L h => ⟨L, h⟩
  os := rfl
  tape := rfl
  output := rfl
  size := Nat.le_refl _
  frame := fun _ _ _ => rfl
  news := fun id im h1 h2 _ => by
    obtain ⟨o, ho⟩ := Option.ne_none_iff_exists'.1 h2
    have := h.bnd id o ho; omega

theorem Post.trans {P : Program} {φ φ1 φ2 : Inj} {lk : Nat} {s s1 s2 : HS} {w w1 w2 : World} (h : Post P φ lk s w φ1 s1 w1) (k : Post P φ1 lk s1 w1 φ2 s2 w2) :
    Post P φ lk s w φ2 s2 w2 where
  ext := h.ext.trans k.ext
  out := fun id hid => by
    have a := h.nx; have b := k.nx
    rw [k.out id (by omega), h.out id (by omega)]
  rel := k.rel
  nx := Nat.le_trans h.nx k.nx
  live := fun id h1 h2 => h.live id h1 (k.live id (Nat.lt_of_lt_of_le h1 h.nx) h2)
  livw := fun id h1 h2 => h.livw id h1 (k.livw id (Nat.lt_of_lt_of_le h1 h.nx) h2)
  lock := fun id hid => (k.lock id hid).trans (h.lock id hid)
  keep := fun id L e => by
    obtain ⟨L1, e1⟩ := h.keep id L e
    exact k.keep id L1 e1
  os := k.os.trans h.os
  tape := k.tape.trans h.tape
  output := k.output.trans h.output
  size := Nat.le_trans h.size k.size
  frame := fun r hr hno => by
    refine (k.frame r (Nat.lt_of_lt_of_le hr h.size) fun id im h1 h2 h3 => ?_).trans (h.frame r hr hno)
    by_cases hid : id < s.nx
    · refine hno id im h1 (h.livw id hid h2) ?_
      rw [← h.out id (Or.inl hid)]; exact h3
    · rcases h.news id im (by omega) h2.ne h3 with hge | ⟨i0, m0, a, b, c, d⟩
      · omega
      · rw [← d]; exact hno i0 m0 a b c
  news := fun id im h1 h2 h3 => by
    by_cases hid : id < s1.nx
    · have h2' := k.live id hid h2
      have h3' : φ1 id = some im := by rw [← k.out id (Or.inl hid)]; exact h3
      exact h.news id im h1 h2' h3'
    · rcases k.news id im (by omega) h2 h3 with hge | ⟨i0, m0, a, b, c, d⟩
      · exact Or.inl (Nat.le_trans h.size hge)
      · by_cases hi0 : i0 < s.nx
        · exact Or.inr ⟨i0, m0, a, h.livw i0 hi0 b, by rw [← h.out i0 (Or.inl hi0)]; exact c, d⟩
        · rcases h.news i0 m0 (by omega) b.ne c with hge | ⟨i1, m1, a1, b1, c1, d1⟩
          · exact Or.inl (by rw [← d]; exact hge)
          · exact Or.inr ⟨i1, m1, a1, b1, c1, d1.trans d⟩

/-- No name of the interval is taken. -/
def Fresh (φ : Inj) (a b : Nat) : Prop := ∀ id, a ≤ id → id < b → φ id = none

theorem Fresh.left {φ : Inj} {a b c : Nat} (h : Fresh φ a c) (hb : b ≤ c) : Fresh φ a b := fun id h1 h2 => h id h1 (by omega)
theorem Fresh.after {P : Program} {φ φ1 : Inj} {lk : Nat} {s s1 : HS} {w w1 : World} {c : Nat} (h : Fresh φ s.nx c) (k : Post P φ lk s w φ1 s1 w1) : Fresh φ1 s1.nx c :=
  fun id h1 h2 => by rw [k.out id (Or.inr h1)]; exact h id (Nat.le_trans k.nx h1) h2

end Go.Ev
