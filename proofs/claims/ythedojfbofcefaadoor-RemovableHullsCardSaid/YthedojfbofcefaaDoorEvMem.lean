/- What the clean memory's operations are in the model's world. -/
import Derived.Test.YthedojfbofcefaaDoorEvRel
import Derived.Laws.CopyRow
namespace Go.Ev
open Go
variable {P : Program} {φ : Inj} {lk : Nat} {s : HS} {w : World}

theorem addr_add (b o j : Nat) : (⟨b, o, none⟩ : Addr).add j = ⟨b, o + j, none⟩ := by
  unfold Addr.add
  split
  · rename_i h; subst h; rfl
  · rfl

theorem cutL_inv {cs : List Value} {off n : Nat} {vs : List Value} (h : cutL cs off n = some vs) : off + n ≤ cs.length ∧ vs = (cs.drop off).take n := by
  unfold cutL at h; split at h
  · rename_i hl; cases h; exact ⟨hl, rfl⟩
  · cases h
theorem cutL_length {cs : List Value} {off n : Nat} {vs : List Value} (h : cutL cs off n = some vs) : vs.length = n := by
  obtain ⟨h1, rfl⟩ := cutL_inv h; simp; omega

theorem readA_inv {hp : T AObj} {a : Addr} {n : Nat} {vs : List Value} (h : readA hp a n = some vs) :
    a.spot = none ∧ ∃ wr e cs, hp.get a.block = some (.cells wr e cs) ∧ cutL cs a.off n = some vs := by
  unfold readA at h; split at h
  · rename_i wr e cs h1 h2; exact ⟨h1, wr, e, cs, h2, h⟩
  · cases h

theorem getElem?_drop_take {l : List Value} {a n j : Nat} (hj : j < n) : ((l.drop a).take n)[j]? = l[a + j]? := by
  rw [List.getElem?_take, if_pos hj, List.getElem?_drop]

theorem readA_sound (H : HR P φ s w) {a : Addr} {n : Nat} {vs : List Value} (h : readA s.hp a n = some vs) {im : Img} (hφ : φ a.block = some im) :
    ∃ vs', LR φ vs vs' ∧ vs'.length = n ∧ ∀ (j : Nat) (v : Value), vs'[j]? = some v → w.cell? ⟨im.blk, im.sh + a.off + j, none⟩ = some v := by
  obtain ⟨_, wr, e, cs, hg, hc⟩ := readA_inv h
  obtain ⟨hl, rfl⟩ := cutL_inv hc
  obtain ⟨im', h1, h2⟩ := H.obj _ _ hg
  rw [hφ] at h1; cases h1
  obtain ⟨_, c, fz, h3, h4, h5, h6, _⟩ := h2
  refine ⟨(c.toList.drop (im.sh + a.off)).take n, ⟨?_, fun i v v' a1 b1 => ?_⟩, ?_, fun j v hj => ?_⟩
  · simp; omega
  · have hi : i < n := by have := (List.getElem?_eq_some_iff.1 a1).1; simp at this; omega
    rw [getElem?_drop_take hi] at a1 b1
    obtain ⟨x, hx, hv⟩ := h6 _ _ a1
    rw [Array.getElem?_toList, show im.sh + a.off + i = im.sh + (a.off + i) by omega, hx] at b1
    cases b1; exact hv
  · simp; omega
  · have hi : j < n := by have := (List.getElem?_eq_some_iff.1 hj).1; simp at this; omega
    rw [getElem?_drop_take hi, Array.getElem?_toList] at hj
    simp only [World.cell?, h3]; simpa using hj

theorem run_load_row (P : Program) (w : World) (b o : Nat) (vs : List Value) (h : ∀ (j : Nat) (v : Value), vs[j]? = some v → w.cell? ⟨b, o + j, none⟩ = some v) :
    (loadCells ⟨b, o, none⟩ vs.length).run P w = .ok vs.toArray w :=
  run_loadCells_list w ⟨b, o, none⟩ vs (fun j v hj => by rw [addr_add]; exact h j v hj)

/-- The heap with another block r. -/
def setB (w : World) (r : Nat) (o : Obj) : World := { w with heap := w.heap.setIfInBounds r o }

theorem setB_same {r : Nat} {o : Obj} (h : r < w.heap.size) : (setB w r o).heap[r]? = some o := by simp [setB, h]
theorem setB_other {r k : Nat} {o : Obj} (h : k ≠ r) : (setB w r o).heap[k]? = w.heap[k]? := by simp [setB, Array.getElem?_setIfInBounds_ne (Ne.symm h)]
theorem setB_setB (r : Nat) (o o' : Obj) : setB (setB w r o) r o' = setB w r o' := by
  simp only [setB]; congr 1
  apply Array.ext_getElem?; intro i
  by_cases h : r = i
  · subst h
    by_cases hb : r < w.heap.size
    · simp [hb]
    · simp [hb]
  · simp [Array.getElem?_setIfInBounds_ne h]
theorem setB_self {r : Nat} {o : Obj} (h : w.heap[r]? = some o) : setB w r o = w := by
  have : w.heap.setIfInBounds r o = w.heap := by
    apply Array.ext_getElem?; intro i
    by_cases hi : r = i
    · subst hi; have := (Array.getElem?_eq_some_iff.1 h).1; simp [this]
      have := (Array.getElem?_eq_some_iff.1 h).2; exact this.symm
    · simp [Array.getElem?_setIfInBounds_ne hi]
  simp [setB, this]

theorem setCell_setB {r o : Nat} {c : Array Value} {e : TypeId} {fz : Nat × Nat} {v : Value} (h : w.heap[r]? = some (.cells c e fz)) :
    w.setCell ⟨r, o, none⟩ v = setB w r (.cells (c.setIfInBounds o v) e fz) := by
  obtain ⟨hlt, hk⟩ := Array.getElem?_eq_some_iff.1 h
  have : (w.setCell ⟨r, o, none⟩ v).heap = (setB w r (.cells (c.setIfInBounds o v) e fz)).heap := by
    apply Array.ext_getElem?; intro i
    simp only [World.setCell, setB, Array.getElem?_modify]
    by_cases hi : r = i
    · subst hi; simp [hlt, hk]
    · simp [hi, Array.getElem?_setIfInBounds_ne hi]
  unfold setB at this ⊢
  unfold World.setCell at this ⊢
  simp only at this
  rw [this]

/-- A row of stores into one block. -/
theorem run_store_row (P : Program) (b o : Nat) (e : TypeId) (fz : Nat × Nat) : ∀ (vs : List Value) (i : Nat) (w : World) (c : Array Value), w.heap[b]? = some (.cells c e fz) → o + i + vs.length ≤ c.size →
    (∀ v ∈ vs, v.oneCell' = true) → (∀ j, o + i ≤ j → j < o + i + vs.length → ¬ (fz.1 ≤ j ∧ j < fz.2)) →
    ∃ c' : Array Value, (storeCells ⟨b, o, none⟩ vs i).run P w = .ok () (setB w b (.cells c' e fz)) ∧ c'.size = c.size ∧
      (∀ j, j < o + i → c'[j]? = c[j]?) ∧ (∀ j, o + i + vs.length ≤ j → c'[j]? = c[j]?) ∧ (∀ j, j < vs.length → c'[o + i + j]? = vs[j]?) := by
  intro vs
  induction vs with
  | nil => exact fun i w c h _ _ _ => ⟨c, by rw [setB_self h]; rfl, rfl, fun _ _ => rfl, fun _ _ => rfl, fun j hj => by simp at hj⟩
  | cons v vs ih =>
    intro i w c h hl h1 hf
    have hlt := (Array.getElem?_eq_some_iff.1 h).1
    have hcell : w.cell? ⟨b, o + i, none⟩ = some (c[o + i]'(by simp at hl; omega)) := by
      simp only [World.cell?, h]; simp
    have hfz : w.frozen? ⟨b, o + i, none⟩ = false := by
      have := hf (o + i) (by omega) (by simp)
      simp only [World.frozen?, h]
      simpa using this
    have hst : (store ⟨b, o + i, none⟩ v).run P w = .ok () (setB w b (.cells (c.setIfInBounds (o + i) v) e fz)) := by
      rw [run_store P w _ v .plain (h1 v (by simp)), hcell]
      simp only [hfz, Bool.false_eq_true, if_false]
      rw [setCell_setB h]
    obtain ⟨c', hr, hs, ha, hb, hc⟩ := ih (i + 1) (setB w b (.cells (c.setIfInBounds (o + i) v) e fz)) (c.setIfInBounds (o + i) v) (setB_same hlt) (by simp at hl ⊢; omega)
      (fun x hx => h1 x (by simp [hx])) (fun j a1 a2 => hf j (by omega) (by simp; omega))
    refine ⟨c', ?_, by simpa using hs, fun j hj => ?_, fun j hj => ?_, fun j hj => ?_⟩
    · simp only [storeCells, Sem.run_bind, addr_add, hst, Result.andThen_ok, hr, setB_setB]
    · rw [ha j (by omega), Array.getElem?_setIfInBounds_ne (by omega)]
    · simp at hj; rw [hb j (by omega), Array.getElem?_setIfInBounds_ne (by omega)]
    · cases j with
      | zero =>
        have := ha (o + i) (by omega)
        simp only [Nat.add_zero, List.getElem?_cons_zero]
        rw [this, Array.getElem?_setIfInBounds_self_of_lt (by simp at hl; omega)]
      | succ j =>
        have := hc j (by simp at hj; omega)
        rw [show o + i + (j + 1) = o + (i + 1) + j by omega, this]; rfl

/-! ### The relation, kept -/
theorem HR.put (H : HR P φ s w) {φ' : Inj} {w' : World} (hφ : Sub φ φ') {i nx' : Nat} {o : AObj} {im : Img} (hi : φ' i = some im) (hnx : s.nx ≤ nx') (hin : i < nx')
    (ho : OR P φ' im (w'.heap[im.blk]?) o)
    (hoth : ∀ j oj mj, j ≠ i → s.hp.get j = some oj → φ j = some mj → w'.heap[mj.blk]? = w.heap[mj.blk]? ∧ mj.blk ≠ im.blk) : HR P φ' { hp := s.hp.put i (some o), nx := nx' } w' where
  obj := fun id x hx => by
    simp only [T.get_put] at hx
    by_cases h : id = i
    · subst h; rw [if_pos rfl] at hx; cases hx; exact ⟨im, hi, ho⟩
    · rw [if_neg h] at hx
      obtain ⟨m, h1, h2⟩ := H.obj id x hx
      refine ⟨m, hφ _ _ h1, ?_⟩
      rw [(hoth id x m h hx h1).1]; exact h2.mono hφ
  inj := fun a b oa ob ma mb ha hb hma hmb hab hwr => by
    simp only [T.get_put] at ha hb
    have old : ∀ k ok mk, k ≠ i → s.hp.get k = some ok → φ' k = some mk → φ k = some mk := fun k ok mk hk h1 h2 => by
      obtain ⟨m, h3, _⟩ := H.obj k ok h1
      have := hφ _ _ h3; rw [h2] at this; cases this; exact h3
    by_cases h : a = i
    · subst h; rw [hi] at hma; cases hma
      rw [if_neg (Ne.symm hab)] at hb
      exact fun e => (hoth b ob mb (Ne.symm hab) hb (old b ob mb (Ne.symm hab) hb hmb)).2 e.symm
    · rw [if_neg h] at ha
      by_cases h' : b = i
      · subst h'; rw [hi] at hmb; cases hmb
        exact (hoth a oa ma h ha (old a oa ma h ha hma)).2
      · rw [if_neg h'] at hb
        exact H.inj a b oa ob ma mb ha hb (old a oa ma h ha hma) (old b ob mb h' hb hmb) hab hwr
  bnd := fun id x hx => by
    simp only [T.get_put] at hx
    by_cases h : id = i
    · subst h; exact hin
    · rw [if_neg h] at hx; exact Nat.lt_of_lt_of_le (H.bnd id x hx) hnx
  glob := fun g hg => by
    obtain ⟨m, h1, h2⟩ := H.glob g hg
    exact ⟨m, hφ _ _ h1, h2⟩
  nxg := Nat.le_trans H.nxg hnx

theorem HR.del (H : HR P φ s w) (i : Nat) : HR P φ { s with hp := s.hp.put i none } w where
  obj := fun id x hx => by
    simp only [T.get_put] at hx
    split at hx
    · cases hx
    · exact H.obj id x hx
  inj := fun a b oa ob ma mb ha hb hma hmb hab hwr => by
    simp only [T.get_put] at ha hb
    split at ha
    · cases ha
    · split at hb
      · cases hb
      · exact H.inj a b oa ob ma mb ha hb hma hmb hab hwr
  bnd := fun id x hx => by
    simp only [T.get_put] at hx
    split at hx
    · cases hx
    · exact H.bnd id x hx
  glob := H.glob
  nxg := H.nxg

/-- A change that leaves the heap alone. -/
theorem HR.same (H : HR P φ s w) {w' : World} (h : w'.heap = w.heap) : HR P φ s w' where
  obj := fun id x hx => by rw [h]; exact H.obj id x hx
  inj := H.inj
  bnd := H.bnd
  glob := H.glob
  nxg := H.nxg

theorem Post.same (H : HR P φ s w) {w' : World} (h : w'.heap = w.heap) (h1 : w'.os = w.os) (h2 : w'.tape = w.tape) (h3 : w'.output = w.output) : Post P φ lk s w φ s w' where
  ext := Sub.refl φ
  out := fun _ _ => rfl
  rel := H.same h
  nx := Nat.le_refl _
  live := fun _ _ h => h
  livw := fun _ _ h => h
  lock := fun _ _ => rfl
  keep := fun _ L h => ⟨L, h⟩
  os := h1
  tape := h2
  output := h3
  size := by rw [h]; exact Nat.le_refl _
  frame := fun _ _ _ => by rw [h]
  news := fun id im a b _ => by
    obtain ⟨o, ho⟩ := Option.ne_none_iff_exists'.1 b
    have := H.bnd id o ho; omega

/-- A block that may be written holds something else. -/
theorem Post.set (H : HR P φ s w) {i : Nat} {o0 o : AObj} {im : Img} {ob : Obj} (hl : lk ≤ i) (h0 : s.hp.get i = some o0) (hw : wrO o0 = true) (hi : φ i = some im) (ho : OR P φ im (some ob) o)
    (hk : ∀ L, o0 = .loop L → ∃ L', o = .loop L') :
    Post P φ lk s w φ { s with hp := s.hp.put i (some o) } (setB w im.blk ob) := by
  have hlt := H.lt h0 hi
  exact {
    ext := Sub.refl φ
    out := fun _ _ => rfl
    rel := by
      refine H.put (Sub.refl φ) hi (Nat.le_refl _) (H.bnd i o0 h0) (by rw [setB_same hlt]; exact ho) (fun j oj mj hj h1 h2 => ?_)
      have hne : mj.blk ≠ im.blk := H.inj j i oj o0 mj im h1 h0 h2 hi hj (Or.inr hw)
      exact ⟨setB_other hne, hne⟩
    nx := Nat.le_refl _
    live := fun id _ hid => by
      simp only [T.get_put] at hid
      by_cases h : id = i
      · subst h; rw [h0]; simp
      · rwa [if_neg h] at hid
    livw := fun id _ hid => by
      by_cases h : id = i
      · subst h; exact ⟨o0, h0, hw⟩
      · exact hid.of_eq (T.get_put_ne _ _ _ h)
    lock := fun id hid => T.get_put_ne _ _ _ (by omega)
    keep := fun id L e => by
      by_cases h : id = i
      · subst h; rw [h0] at e
        obtain ⟨L', e'⟩ := hk L (Option.some.inj e)
        exact ⟨L', by rw [T.get_put_eq, e']⟩
      · exact ⟨L, by rw [T.get_put_ne _ _ _ h]; exact e⟩
    os := rfl
    tape := rfl
    output := rfl
    size := by simp [setB]
    frame := fun r _ hno => setB_other (Ne.symm (hno i im hl ⟨o0, h0, hw⟩ hi))
    news := fun id m h1 h2 _ => by
      simp only [T.get_put] at h2
      have hb := H.bnd i o0 h0
      rw [if_neg (show ¬ id = i by have : s.nx ≤ id := h1; omega)] at h2
      obtain ⟨x, hx⟩ := Option.ne_none_iff_exists'.1 h2
      have := H.bnd id x hx; have : s.nx ≤ id := h1; omega }

def addI (φ : Inj) (i : Nat) (im : Img) : Inj := fun id => if id = i then some im else φ id
theorem addI_sub {i : Nat} {im : Img} (h : φ i = none) : Sub φ (addI φ i im) := fun id m e => by
  unfold addI
  by_cases hh : id = i
  · subst hh; rw [h] at e; cases e
  · rw [if_neg hh]; exact e
theorem addI_self (φ : Inj) (i : Nat) (im : Img) : addI φ i im i = some im := if_pos rfl
theorem addI_other (φ : Inj) {i id : Nat} (im : Img) (h : id ≠ i) : addI φ i im id = φ id := if_neg h

/-- A new block. -/
theorem Post.new (H : HR P φ s w) (hlk : lk ≤ s.nx) (hf : φ s.nx = none) {o : AObj} {im : Img} {ob : Obj} (hb : im.blk = w.heap.size)
    (ho : OR P (addI φ s.nx im) im (some ob) o) : Post P φ lk s w (addI φ s.nx im) { hp := s.hp.put s.nx (some o), nx := s.nx + 1 } (w.alloc ob) := by
  have hget : ∀ k, k < w.heap.size → (w.alloc ob).heap[k]? = w.heap[k]? := fun k hk => by
    show (w.heap.push ob)[k]? = _
    rw [Array.getElem?_push, if_neg (by omega)]
  exact {
    ext := addI_sub hf
    out := fun id hid => addI_other φ im (by rcases hid with h | h; omega; simp at h; omega)
    rel := by
      refine H.put (addI_sub hf) (addI_self φ _ im) (Nat.le_succ _) (Nat.lt_succ_self _) ?_ (fun j oj mj hj h1 h2 => ?_)
      · rw [hb, World.alloc_heap_new]; exact ho
      · have := H.lt h1 h2
        exact ⟨hget _ this, by omega⟩
    nx := Nat.le_succ _
    live := fun id hid h => by
      simp only [T.get_put] at h
      rwa [if_neg (by omega)] at h
    livw := fun id hid h => h.of_eq (T.get_put_ne _ _ _ (by omega))
    lock := fun id hid => T.get_put_ne _ _ _ (by omega)
    keep := fun id L e => ⟨L, by rw [T.get_put_ne _ _ _ (by have := H.bnd id _ e; omega)]; exact e⟩
    os := rfl
    tape := rfl
    output := rfl
    size := by simp
    frame := fun r hr _ => hget r hr
    news := fun id m h1 h2 h3 => by
      simp only [T.get_put] at h2
      by_cases h : id = s.nx
      · subst h; rw [addI_self] at h3; cases h3; exact Or.inl (by omega)
      · rw [if_neg h] at h2
        obtain ⟨x, hx⟩ := Option.ne_none_iff_exists'.1 h2
        have := H.bnd id x hx; omega }

/-- A block is given up. -/
theorem Post.del (H : HR P φ s w) {i : Nat} (hl : lk ≤ i) (hk : ∀ L, s.hp.get i ≠ some (.loop L)) : Post P φ lk s w φ { s with hp := s.hp.put i none } w where
  ext := Sub.refl φ
  out := fun _ _ => rfl
  rel := H.del i
  nx := Nat.le_refl _
  live := fun id _ h => by
    simp only [T.get_put] at h
    split at h
    · simp at h
    · exact h
  livw := fun id _ h => by
    by_cases hi : id = i
    · subst hi; exact absurd (T.get_put_eq _ _ _) h.ne
    · exact h.of_eq (T.get_put_ne _ _ _ hi)
  lock := fun id hid => T.get_put_ne _ _ _ (by omega)
  keep := fun id L e => ⟨L, by rw [T.get_put_ne _ _ _ (fun h => hk L (by rw [← h]; exact e))]; exact e⟩
  os := rfl
  tape := rfl
  output := rfl
  size := Nat.le_refl _
  frame := fun _ _ _ => rfl
  news := fun id im a b _ => by
    simp only [T.get_put] at b
    split at b
    · simp at b
    · obtain ⟨o, ho⟩ := Option.ne_none_iff_exists'.1 b
      have := H.bnd id o ho; have : s.nx ≤ id := a; omega

/-- A block is given up, and its room goes on under a new name. -/
theorem Post.turn (H : HR P φ s w) {i : Nat} {o0 o : AObj} {im im' : Img} {ob : Obj} (hl : lk ≤ i) (h0 : s.hp.get i = some o0) (hw : wrO o0 = true) (hk : ∀ L, o0 ≠ .loop L) (hi : φ i = some im) (hf : φ s.nx = none)
    (hb : im'.blk = im.blk) (ho : OR P (addI φ s.nx im') im' (some ob) o) :
    Post P φ lk s w (addI φ s.nx im') { hp := (s.hp.put i none).put s.nx (some o), nx := s.nx + 1 } (setB w im.blk ob) := by
  have hlt := H.lt h0 hi
  have hin := H.bnd i o0 h0
  have hne : ∀ j oj mj, j ≠ i → s.hp.get j = some oj → φ j = some mj → mj.blk ≠ im.blk := fun j oj mj hj h1 h2 => H.inj j i oj o0 mj im h1 h0 h2 hi hj (Or.inr hw)
  exact {
    ext := addI_sub hf
    out := fun id hid => addI_other φ im' (by rcases hid with h | h; omega; simp at h; omega)
    rel := by
      have H' := H.del i
      refine H'.put (i := s.nx) (nx' := s.nx + 1) (addI_sub hf) (addI_self φ _ im') (Nat.le_succ _) (Nat.lt_succ_self _) ?_ (fun j oj mj hj h1 h2 => ?_)
      · rw [hb, setB_same hlt]; exact ho
      · simp only [T.get_put] at h1
        split at h1
        · cases h1
        · rename_i hji
          have := hne j oj mj hji h1 h2
          exact ⟨setB_other this, by rw [hb]; exact this⟩
    nx := Nat.le_succ _
    live := fun id hid h => by
      simp only [T.get_put] at h
      rw [if_neg (by omega)] at h
      split at h
      · simp at h
      · exact h
    livw := fun id hid h => by
      have h2 := h.of_eq (g := (s.hp.put i none).get) (T.get_put_ne _ _ _ (by omega))
      by_cases hi' : id = i
      · subst hi'; exact absurd (T.get_put_eq _ _ _) h2.ne
      · exact h2.of_eq (T.get_put_ne _ _ _ hi')
    lock := fun id hid => by
      show ((s.hp.put i none).put s.nx (some o)).get id = _
      rw [T.get_put_ne _ _ _ (by omega), T.get_put_ne _ _ _ (by omega)]
    keep := fun id L e => by
      have h1 : id < s.nx := H.bnd id _ e
      have h2 : id ≠ i := fun h => hk L (by rw [h, h0] at e; exact Option.some.inj e)
      exact ⟨L, by show ((s.hp.put i none).put s.nx (some o)).get id = _; rw [T.get_put_ne _ _ _ (by omega), T.get_put_ne _ _ _ h2]; exact e⟩
    os := rfl
    tape := rfl
    output := rfl
    size := by simp [setB]
    frame := fun r _ hno => setB_other (Ne.symm (hno i im hl ⟨o0, h0, hw⟩ hi))
    news := fun id m h1 h2 h3 => by
      simp only [T.get_put] at h2
      by_cases h : id = s.nx
      · subst h; rw [addI_self] at h3; cases h3
        exact Or.inr ⟨i, im, hl, ⟨o0, h0, hw⟩, hi, hb.symm⟩
      · rw [if_neg h] at h2
        split at h2
        · simp at h2
        · obtain ⟨x, hx⟩ := Option.ne_none_iff_exists'.1 h2
          have := H.bnd id x hx; omega }

end Go.Ev
