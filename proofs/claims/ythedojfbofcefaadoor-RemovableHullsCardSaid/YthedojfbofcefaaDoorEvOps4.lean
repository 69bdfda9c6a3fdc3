/- The operations, one by one: what is written, what is built. -/
import Derived.Test.YthedojfbofcefaaDoorEvOps3
namespace Go.Ev
open Go
variable {P : Program} {φ : Inj} {lk : Nat} {s : HS} {w : World}

theorem putL_length {cs vs : List Value} {off : Nat} (h : off + vs.length ≤ cs.length) : (putL cs off vs).length = cs.length := by
  simp [putL]; omega

theorem getElem?_putL {cs vs : List Value} {off : Nat} (h : off + vs.length ≤ cs.length) (j : Nat) :
    (putL cs off vs)[j]? = if j < off then cs[j]? else if j < off + vs.length then vs[j - off]? else cs[j]? := by
  unfold putL
  by_cases h1 : j < off
  · rw [if_pos h1, List.getElem?_append_left (by simp; omega), List.getElem?_take, if_pos h1]
  · rw [if_neg h1, List.getElem?_append_right (by simp; omega)]
    have e : (cs.take off).length = off := by simp; omega
    rw [e]
    by_cases h2 : j < off + vs.length
    · rw [if_pos h2, List.getElem?_append_left (by omega)]
    · rw [if_neg h2, List.getElem?_append_right (by omega), List.getElem?_drop]
      congr 1; omega

theorem LR.put {cs ds vs us : List Value} (h : LR φ cs ds) (hv : LR φ vs us) (off : Nat) : LR φ (putL cs off vs) (putL ds off us) :=
  (h.take off).append (hv.append (by rw [hv.1]; exact h.drop _))

/-! ### Stores -/
theorem writeA_inv {hp h' : T AObj} {a : Addr} {vs : List Value} (h : writeA lk hp a vs = some h') :
    a.spot = none ∧ ∃ e cs, hp.get a.block = some (.cells true e cs) ∧ lk ≤ a.block ∧ a.off + vs.length ≤ cs.length ∧ vs.all Value.oneCell' = true ∧
      h' = hp.put a.block (some (.cells true e (putL cs a.off vs))) := by
  unfold writeA at h
  split at h
  · rename_i e cs h1 h2
    split at h
    · rename_i hc; obtain ⟨a1, a2, a3⟩ := hc; cases h; exact ⟨h1, e, cs, h2, a1, a2, a3, rfl⟩
    · cases h
  · cases h

theorem LR.one {vs us : List Value} (h : LR φ vs us) (h1 : vs.all Value.oneCell' = true) : ∀ v ∈ us, v.oneCell' = true := by
  intro v hv
  obtain ⟨i, hi⟩ := List.mem_iff_getElem?.1 hv
  have hl : i < vs.length := by have := (List.getElem?_eq_some_iff.1 hi).1; have := h.1; omega
  have := h.2 i _ v (List.getElem?_eq_getElem hl) hi
  rw [this.one]
  rw [List.all_eq_true] at h1
  exact h1 _ (List.getElem_mem hl)

theorem writeA_sound (H : HR P φ s w) {a : Addr} {vs us : List Value} {h' : T AObj} {im : Img} (hφ : φ a.block = some im) (hr : LR φ vs us) (h : writeA lk s.hp a vs = some h') :
    ∃ w', (storeCells ⟨im.blk, im.sh + a.off, none⟩ us).run P w = .ok () w' ∧ Post P φ lk s w φ { s with hp := h' } w' := by
  obtain ⟨_, e, cs, hg, hlk, hl, h1, rfl⟩ := writeA_inv h
  obtain ⟨im', e1, e2⟩ := H.obj _ _ hg
  rw [hφ] at e1; cases e1
  obtain ⟨hz, c, fz, hob, hsz, hle, hcs, hfz⟩ := e2
  have hlen := hr.1
  obtain ⟨c', hrun, hs', ha, hb, hc⟩ := run_store_row P im.blk (im.sh + a.off) e fz us 0 w c hob (by omega) (hr.one h1) (fun j j1 _ => hfz rfl j (by omega))
  refine ⟨_, hrun, Post.set (o := .cells true e (putL cs a.off vs)) (ob := .cells c' e fz) H hlk hg rfl hφ ⟨hz, c', fz, rfl, by omega, by rw [putL_length hl]; exact hle, fun i v hi => ?_, hfz⟩ (fun L h => by cases h)⟩
  rw [getElem?_putL hl] at hi
  split at hi
  · rename_i hlt
    rw [ha (im.sh + i) (by omega)]; exact hcs i v hi
  · split at hi
    · rename_i h2 h3
      obtain ⟨v', hv', hvr⟩ := hr.get hi
      refine ⟨v', ?_, hvr⟩
      have := hc (i - a.off) (by omega)
      rw [show im.sh + i = im.sh + a.off + 0 + (i - a.off) by omega, this]; exact hv'
    · rw [hb (im.sh + i) (by omega)]; exact hcs i v hi

theorem storeV_sound (H : HR P φ s w) {t : TypeId} {a a' v v' : Value} {s' : HS} (ha : VR φ a a') (hv : VR φ v v') (h : storeV P lk s t a v = some s') :
    ∃ w', (Instr.storeAt t a' v').run P w = .ok () w' ∧ Post P φ lk s w φ s' w' := by
  unfold storeV at h
  split at h
  · rename_i ad
    cases hz : szA P t with
    | none => rw [hz] at h; cases h
    | some n =>
      rw [hz] at h; simp only [Option.bind_some] at h
      split at h
      · rename_i hn
        cases hw : writeA lk s.hp ad v.cells.toList with
        | none => rw [hw] at h; cases h
        | some h' =>
          rw [hw] at h; cases h
          cases ha with
          | ptr id off im hφ =>
            obtain ⟨w', hr, hp⟩ := writeA_sound H hφ hv.cells hw
            refine ⟨w', ?_, hp⟩
            have hn' : v'.cells.size = n := by rw [← Array.length_toList, ← hv.cells.1]; exact hn
            simp [Instr.storeAt, Instr.sureAddr, storeVar, szA_run hz, hn', hr]
      · cases h
  · cases h

/-! ### New blocks -/
theorem newA_sound (H : HR P φ s w) (hlk : lk ≤ s.nx) (hf : φ s.nx = none) {e : TypeId} {n : Nat} (hz : szA P e = some n) {cs ds : List Value} (hr : LR φ cs ds) :
    Post P φ lk s w (addI φ s.nx ⟨w.heap.size, 0, ds.length, n⟩) (newA s e cs).2 (w.alloc (.cells ds.toArray e)) := by
  refine Post.new H hlk hf rfl ⟨hz, ds.toArray, (0, 0), rfl, by simp, by rw [hr.1]; exact Nat.le_refl _, fun i v hi => ?_, fun _ j _ h => by omega⟩
  obtain ⟨v', h1, h2⟩ := hr.get hi
  refine ⟨v', by simpa using h1, h2.mono (addI_sub hf)⟩

theorem zerosL_length (z : List Value) (n : Nat) : (zerosL z n).length = n * z.length := by
  induction n with
  | zero => simp [zerosL]
  | succ n ih => simp only [zerosL, List.length_append, ih, Nat.add_mul]; omega

theorem zerosL_get (z : List Value) (n j : Nat) (h : j < n * z.length) : (zerosL z n)[j]? = z[j % z.length]? := by
  induction n generalizing j with
  | zero => simp at h
  | succ n ih =>
    simp only [zerosL]
    by_cases hj : j < z.length
    · rw [List.getElem?_append_left hj, Nat.mod_eq_of_lt hj]
    · rw [List.getElem?_append_right (by omega), ih _ (by rw [Nat.add_mul] at h; omega)]
      congr 1
      rw [← Nat.mod_eq_sub_mod (by omega)]

theorem range_zeros (z : Array Value) (n : Nat) : (Array.range (n * z.size)).map (fun j => z[j % z.size]!) = (zerosL z.toList n).toArray := by
  apply Array.ext
  · simp [zerosL_length]
  · intro i h1 h2
    have hi : i < n * z.size := by simpa using h1
    have hz : 0 < z.size := by
      rcases Nat.eq_zero_or_pos z.size with h | h
      · rw [h] at hi; simp at hi
      · exact h
    have hm : i % z.size < z.size := Nat.mod_lt _ hz
    have := zerosL_get z.toList n i (by simpa using hi)
    simp only [Array.length_toList, Array.getElem?_toList] at this
    simp only [Array.getElem_map, Array.getElem_range, List.getElem_toArray]
    rw [List.getElem?_eq_getElem (by simpa using h2), Array.getElem?_eq_getElem hm] at this
    rw [getElem!_pos z (i % z.size) hm]
    exact (Option.some.inj this).symm

theorem LR.plain_cells {z : Value} (h : plainN 4 z = true) : LR φ z.cells.toList z.cells.toList := (VR.plain 4 z h).cells
theorem LR.zeros {z : List Value} (h : LR φ z z) (n : Nat) : LR φ (zerosL z n) (zerosL z n) := by
  induction n with
  | zero => exact LR.nil φ
  | succ n ih => exact h.append ih

theorem alloc_sound (H : HR P φ s w) (hlk : lk ≤ s.nx) (hf : φ s.nx = none) {t : TypeId} {z : Value} {n : Nat} (hz : zeroA P t = some z) (hs : szA P t = some n) :
    ∃ v' φ' w', (Instr.alloc t true (.tuple #[])).run P w = .ok v' w' ∧ VR φ' (.pointer (some ⟨s.nx, 0, none⟩)) v' ∧ Post P φ lk s w φ' (newA s t z.cells.toList).2 w' := by
  obtain ⟨h1, h2⟩ := zeroA_run hz w
  have hp := newA_sound H hlk hf hs (LR.plain_cells (φ := φ) h2)
  refine ⟨.pointer (some ⟨w.heap.size, 0, none⟩), _, _, ?_, .ptr s.nx 0 _ (addI_self φ s.nx _), hp⟩
  simp [Instr.alloc, h1, newVar, newRow]

theorem box_sound (H : HR P φ s w) (hlk : lk ≤ s.nx) (hf : φ s.nx = none) {t : TypeId} {v v' : Value} {n : Nat} (hv : VR φ v v') (hs : szA P t = some n) :
    ∃ u' φ' w', (Instr.box t v').run P w = .ok u' w' ∧ VR φ' (.pointer (some ⟨s.nx, 0, none⟩)) u' ∧ Post P φ lk s w φ' (newA s t v.cells.toList).2 w' := by
  have hp := newA_sound H hlk hf hs hv.cells
  refine ⟨.pointer (some ⟨w.heap.size, 0, none⟩), _, _, ?_, .ptr s.nx 0 _ (addI_self φ s.nx _), hp⟩
  simp [Instr.box, newVar, newRow]

/-! ### Aggregates that are built -/
theorem foldl_put (off : Nat) : ∀ (vs : List Value) (k : Nat) (cs : Array Value), off + k + vs.length ≤ cs.size →
    (vs.zipIdx k).foldl (fun (cs : Array Value) (p : Value × Nat) => cs.setIfInBounds (off + p.2) p.1) cs = (putL cs.toList (off + k) vs).toArray := by
  intro vs
  induction vs with
  | nil => intro k cs h; simp [putL]
  | cons v vs ih =>
    intro k cs h
    simp only [List.length_cons] at h
    simp only [List.zipIdx_cons, List.foldl_cons]
    rw [ih (k + 1) _ (by simp; omega)]
    apply Array.ext'
    simp only
    apply List.ext_getElem?
    intro j
    rw [getElem?_putL (by simp; omega), getElem?_putL (by simp; omega)]
    simp only [List.length_cons]
    by_cases h1 : j < off + k
    · rw [if_pos h1, if_pos (by omega)]; simp [List.getElem?_set_ne (show off + k ≠ j by omega)]
    · rw [if_neg h1]
      by_cases h2 : j = off + k
      · subst h2
        rw [if_pos (by omega), if_pos (by omega)]
        simp only [Array.toList_setIfInBounds, Nat.sub_self, List.getElem?_cons_zero]
        rw [List.getElem?_set_self (by simp; omega)]
      · rw [if_neg (by omega)]
        by_cases h3 : j < off + k + (vs.length + 1)
        · rw [if_pos (by omega), if_pos h3]
          rw [show j - (off + k) = (j - (off + (k + 1))) + 1 by omega]; rfl
        · rw [if_neg (by omega), if_neg h3]; simp [List.getElem?_set_ne (show off + k ≠ j by omega)]

def PR (φ : Inj) : List (Nat × Value) → List (Nat × Value) → Prop
  | [], [] => True
  | (i, v) :: r, (j, u) :: q => i = j ∧ VR φ v u ∧ PR φ r q
  | _, _ => False

theorem fillA_sound {place : Nat → Option (Nat × Nat)} : ∀ (ps ps' : List (Nat × Value)) (cs ds cs1 : List Value), PR φ ps ps' → LR φ cs ds → fillA place cs ps = some cs1 →
    ∃ ds1, Instr.fill place ds.toArray ps' = some ds1.toArray ∧ LR φ cs1 ds1 := by
  intro ps
  induction ps with
  | nil =>
    intro ps' cs ds cs1 hp hr h
    cases ps' with
    | nil => simp only [fillA, Option.some.injEq] at h; subst h; exact ⟨ds, rfl, hr⟩
    | cons p q => exact hp.elim
  | cons p ps ih =>
    intro ps' cs ds cs1 hp hr h
    obtain ⟨i, v⟩ := p
    cases ps' with
    | nil => exact hp.elim
    | cons p' ps' =>
      obtain ⟨j, u⟩ := p'
      obtain ⟨rfl, hv, hps⟩ := hp
      simp only [fillA] at h
      cases hpl : place i with
      | none => rw [hpl] at h; cases h
      | some x =>
        obtain ⟨off, size⟩ := x
        rw [hpl] at h; simp only [Option.bind_some] at h
        split at h
        · cases h
        · rename_i hc
          have hvl : u.cells.size = v.cells.toList.length := by rw [hv.cells.1]; simp
          have hdl := hr.1
          have c1 : u.cells.size = size := by omega
          have c2 : off + u.cells.size ≤ ds.length := by omega
          obtain ⟨ds1, h1, h2⟩ := ih ps' _ _ cs1 hps (hr.put hv.cells off) h
          refine ⟨ds1, ?_, h2⟩
          rw [Instr.fill, hpl]
          simp only [c1, ne_eq, not_true_eq_false, decide_false, Bool.false_or]
          rw [if_neg (by simp; omega)]
          rw [← h1]
          congr 1
          have := foldl_put off u.cells.toList 0 ds.toArray (by simp; omega)
          simp only [Nat.add_zero] at this
          rw [← this, ← Array.foldl_toList]
          simp

theorem omap_inv {α β : Type} {f : α → Option β} : ∀ {xs : List α} {ys : List β}, omap f xs = some ys → ys.length = xs.length ∧ ∀ (i : Nat) (x : α), xs[i]? = some x → ∃ y, f x = some y ∧ ys[i]? = some y := by
  intro xs
  induction xs with
  | nil => intro ys h; simp only [omap, Option.some.injEq] at h; subst h; exact ⟨rfl, fun i x hx => by simp at hx⟩
  | cons x xs ih =>
    intro ys h
    simp only [omap] at h
    cases hx : f x with
    | none => rw [hx] at h; cases h
    | some y =>
      rw [hx] at h; simp only [Option.bind_some] at h
      cases hxs : omap f xs with
      | none => rw [hxs] at h; cases h
      | some zs =>
        rw [hxs] at h; cases h
        obtain ⟨h1, h2⟩ := ih hxs
        refine ⟨by simp [h1], fun i u hu => ?_⟩
        cases i with
        | zero => simp only [List.getElem?_cons_zero, Option.some.injEq] at hu; subst hu; exact ⟨y, hx, rfl⟩
        | succ i => exact h2 i u hu

theorem mapM_sizes : ∀ {fs : List Field} {ys : List (Nat × Nat)}, omap (fun (f : Field) => (szA P f.type).map fun n => (f.offset, n)) fs = some ys →
    (fs.mapM (fun (f : Field) => (do pure (f.offset, ← sizeOf f.type) : Sem (Nat × Nat)))).run P w = .ok ys w := by
  intro fs
  induction fs with
  | nil => intro ys h; simp only [omap, Option.some.injEq] at h; subst h; rfl
  | cons f fs ih =>
    intro ys h
    simp only [omap] at h
    cases hz : szA P f.type with
    | none => rw [hz] at h; cases h
    | some n =>
      rw [hz] at h; simp only [Option.map_some, Option.bind_some] at h
      cases hxs : omap (fun (f : Field) => (szA P f.type).map fun n => (f.offset, n)) fs with
      | none => rw [hxs] at h; cases h
      | some zs =>
        rw [hxs] at h; cases h
        rw [List.mapM_cons]
        simp only [Sem.run_bind, szA_run hz, Result.andThen_ok, ih hxs, Sem.run_pure]

theorem buildA_sound {t : TypeId} {ps ps' : List (Nat × Value)} {v : Value} (hp : PR φ ps ps') (h : buildA P t ps = some v) : ∃ v', (Instr.build t ps'.toArray).run P w = .ok v' w ∧ VR φ v v' := by
  unfold buildA at h
  cases hz : zeroA P t with
  | none => rw [hz] at h; cases h
  | some z =>
    rw [hz] at h; simp only [Option.bind_some] at h
    obtain ⟨z1, z2⟩ := zeroA_run hz w
    split at h
    · rename_i fs hu
      cases ho : omap (fun (f : Field) => (szA P f.type).map fun n => (f.offset, n)) fs.toList with
      | none => rw [ho] at h; cases h
      | some places =>
        rw [ho] at h; simp only [Option.bind_some] at h
        cases hf : fillA (fun i => places[i]?) z.cells.toList ps with
        | none => rw [hf] at h; cases h
        | some cs =>
          rw [hf] at h; cases h
          obtain ⟨ds, h1, h2⟩ := fillA_sound ps ps' _ _ _ hp (LR.plain_cells z2) hf
          refine ⟨_, ?_, VR.agg' h2⟩
          have hm := mapM_sizes (P := P) (w := w) ho
          have : (fun (i : Nat) => places.toArray[i]?) = (fun (i : Nat) => places[i]?) := by funext i; simp
          simp only [Instr.build, Sem.run_bind, z1, run_underlying hu, Result.andThen_ok]
          rw [Array.mapM_eq_mapM_toList]
          simp only [Sem.run_map, hm, Result.andThen_ok, this]
          simp only [Array.toArray_toList] at h1
          rw [h1]; rfl
    · rename_i n elem hu
      cases hs : szA P elem with
      | none => rw [hs] at h; cases h
      | some size =>
        rw [hs] at h; simp only [Option.bind_some] at h
        cases hf : fillA (fun i => some (i * size, size)) z.cells.toList ps with
        | none => rw [hf] at h; cases h
        | some cs =>
          rw [hf] at h; cases h
          obtain ⟨ds, h1, h2⟩ := fillA_sound ps ps' _ _ _ hp (LR.plain_cells z2) hf
          refine ⟨_, ?_, VR.agg' h2⟩
          simp only [Array.toArray_toList] at h1
          simp only [Instr.build, Sem.run_bind, z1, run_underlying hu, Result.andThen_ok, szA_run hs]
          rw [h1]; rfl
    · cases h

theorem buildSliceA_sound (H : HR P φ s w) (hlk : lk ≤ s.nx) (hf : φ s.nx = none) {t : TypeId} {len : Nat} {ps ps' : List (Nat × Value)} {v : Value} {s' : HS} (hp : PR φ ps ps')
    (h : buildSliceA P t len ps s = some (v, s')) : ∃ v' φ' w', (Instr.buildSlice t len ps'.toArray).run P w = .ok v' w' ∧ VR φ' v v' ∧ Post P φ lk s w φ' s' w' := by
  unfold buildSliceA at h
  cases he : elemA P t with
  | none => rw [he] at h; cases h
  | some e =>
  rw [he] at h; simp only [Option.bind_some] at h
  cases hs : szA P e with
  | none => rw [hs] at h; cases h
  | some size =>
  rw [hs] at h; simp only [Option.bind_some] at h
  cases hz : zeroA P e with
  | none => rw [hz] at h; cases h
  | some z =>
  rw [hz] at h; simp only [Option.bind_some] at h
  split at h
  · rename_i hc
    obtain ⟨c1, c2, c3⟩ := hc
    cases hfl : fillA (fun i => some (i * size, size)) (zerosL z.cells.toList len) ps with
    | none => rw [hfl] at h; cases h
    | some cs =>
      rw [hfl] at h; cases h
      obtain ⟨z1, z2⟩ := zeroA_run hz w
      obtain ⟨ds, h1, h2⟩ := fillA_sound ps ps' _ _ _ hp ((LR.plain_cells z2).zeros len) hfl
      have hpost := newA_sound H hlk hf hs h2
      have hzs : z.cells.size = size := by simpa using c1
      have hlen : len < UNK := by
        have : len * 1 ≤ len * size := Nat.mul_le_mul_left _ (by omega)
        unfold UNK; omega
      refine ⟨.slice (some ⟨w.heap.size, 0, none⟩) len len, _, _, ?_, .slice s.nx 0 len len _ (addI_self φ s.nx _) hlen, hpost⟩
      have hu := elemA_und he
      have c3' : ¬ (len * size > 2 ^ 24) := by omega
      simp only [Instr.buildSlice, Sem.run_bind, run_underlying hu, Result.andThen_ok, szA_run hs, c3', if_false]
      by_cases h0 : len * size = 0
      · have hl0 : len = 0 := by rcases Nat.mul_eq_zero.1 h0 with h | h; exact h; exact absurd h c2
        subst hl0
        simp only [zerosL] at h1
        have hr0 : ∀ f : Nat → Value, (Array.range (0 * size)).map f = #[] := by intro f; simp
        simp only [if_pos h0, Sem.run_pure, Result.andThen_ok, Sem.run_bind, hr0]
        rw [h1]; rfl
      · have hr := range_zeros z.cells len
        rw [hzs] at hr
        simp only [if_neg h0, Sem.run_bind, z1, Result.andThen_ok, Sem.run_pure, hzs, hr]
        rw [h1]; rfl
  · cases h

end Go.Ev
