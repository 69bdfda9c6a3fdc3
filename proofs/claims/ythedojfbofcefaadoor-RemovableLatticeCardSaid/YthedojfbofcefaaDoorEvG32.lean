import Derived.Test.YthedojfbofcefaaDoorEvSrt
/- The sorts of the program: sets by their sizes and nodes, edges by their ends. -/
set_option linter.unusedSimpArgs false
set_option linter.unusedVariables false
namespace Go.Ev
open Go Go.Proofs Go.Sort Go.Shelf

/-- A sorted list. -/
def srt {α : Type} (cf : α → α → Int) (ds : List α) : List α := ds.mergeSort fun x y => !(ltOf cf) y x
theorem srt_len {α : Type} (cf : α → α → Int) (ds : List α) : (srt cf ds).length = ds.length := List.length_mergeSort _

/-- What a sort answers. -/
def SortIs {α : Type} (f g : FuncId) (e : TypeId) (enc : α → List Value) (cf : α → α → Int) (lk : Nat) (f' : FuncId) (args : List Value) (s : HS) (r : Value × HS) : Prop :=
  f' = f ∧ ((∃ (id off cap : Nat) (cs : List Value) (ds : List α), args = [.slice (some ⟨id, off, none⟩) ds.length cap, .func (.func g) #[] #[]] ∧ lk ≤ id ∧ id ≠ 0 ∧ s.hp.get id = some (.cells true e cs) ∧
      cutL cs off (ds.map enc).flatten.length = some (ds.map enc).flatten ∧ s.hp.get 0 = some tabB ∧ ds ≠ [] ∧ ds.length < 4611686018427387904 ∧
      r = (.tuple #[], { s with hp := s.hp.put id (some (.cells true e (putL cs off ((srt cf ds).map enc).flatten))) })) ∨
    ∃ (b : Option Addr) (cap : Nat), args = [.slice b 0 cap, .func (.func g) #[] #[]] ∧ r = (.tuple #[], s))

theorem flat_inj {α : Type} {enc : α → List Value} {k : Nat} (hk : ∀ x, (enc x).length = k) (hi : ∀ x y, enc x = enc y → x = y) : ∀ {a b : List α}, a.length = b.length → (a.map enc).flatten = (b.map enc).flatten → a = b := by
  intro a
  induction a with
  | nil => intro b hl _; cases b with | nil => rfl | cons y b => simp at hl
  | cons x a ih =>
    intro b hl h
    cases b with
    | nil => simp at hl
    | cons y b =>
      simp only [List.map_cons, List.flatten_cons] at h
      have h1 := List.append_inj h (by rw [hk, hk])
      rw [hi x y h1.1, ih (by simpa using hl) h1.2]

theorem SortIs.uniq {α : Type} {f g : FuncId} {e : TypeId} {enc : α → List Value} {cf : α → α → Int} {lk lk' : Nat} {f' : FuncId} {args : List Value} {s : HS} {r r' : Value × HS} {k : Nat} (hk : ∀ x, (enc x).length = k) (hi : ∀ x y, enc x = enc y → x = y)
    (h : SortIs f g e enc cf lk f' args s r) (h' : SortIs f g e enc cf lk' f' args s r') : r = r' := by
  obtain ⟨_, h⟩ := h
  obtain ⟨_, h'⟩ := h'
  rcases h with ⟨id, off, cap, cs, ds, rfl, h1, h2, h3, h4, h5, h6, h7, rfl⟩ | ⟨b, cap, rfl, rfl⟩
  · rcases h' with ⟨id', off', cap', cs', ds', ha, k1, k2, k3, k4, k5, k6, k7, rfl⟩ | ⟨b, cap', ha, rfl⟩
    · simp only [List.cons.injEq, Value.slice.injEq, Option.some.injEq, Addr.mk.injEq, and_true] at ha
      obtain ⟨⟨rfl, rfl⟩, hl, rfl⟩ := ha
      rw [h3] at k3
      simp only [Option.some.injEq, AObj.cells.injEq, true_and] at k3
      subst k3
      have hfl : ∀ l : List α, (l.map enc).flatten.length = l.length * k := fun l => by
        rw [flat_len (size := k) fun x hx => by obtain ⟨y, _, rfl⟩ := List.mem_map.1 hx; exact hk y, List.length_map]
      rw [hfl, ← hl, ← hfl, h4, Option.some.injEq] at k4
      rw [flat_inj hk hi hl k4]
    · simp only [List.cons.injEq, Value.slice.injEq, and_true] at ha
      exact absurd (List.eq_nil_of_length_eq_zero ha.2.1) h6
  · rcases h' with ⟨id', off', cap', cs', ds', ha, k1, k2, k3, k4, k5, k6, k7, rfl⟩ | ⟨b, cap', ha, rfl⟩
    · simp only [List.cons.injEq, Value.slice.injEq, and_true] at ha
      exact absurd (List.eq_nil_of_length_eq_zero ha.2.1.symm) k6
    · rfl

theorem SortIs.lower {α : Type} {f g : FuncId} {e : TypeId} {enc : α → List Value} {cf : α → α → Int} {lk lk' : Nat} {f' : FuncId} {args : List Value} {s : HS} {r : Value × HS} (hl : lk' ≤ lk) (h : SortIs f g e enc cf lk f' args s r) : SortIs f g e enc cf lk' f' args s r := by
  obtain ⟨h0, h⟩ := h
  refine ⟨h0, ?_⟩
  rcases h with ⟨id, off, cap, cs, ds, h1, h2, h3⟩ | h
  · exact Or.inl ⟨id, off, cap, cs, ds, h1, Nat.le_trans hl h2, h3⟩
  · exact Or.inr h

theorem SortIs.nx {α : Type} {f g : FuncId} {e : TypeId} {enc : α → List Value} {cf : α → α → Int} {lk : Nat} {f' : FuncId} {args : List Value} {s s' : HS} {v : Value} (h : SortIs f g e enc cf lk f' args s (v, s')) : s'.nx = s.nx := by
  obtain ⟨_, h⟩ := h
  rcases h with ⟨id, off, cap, cs, ds, h1, h2, _, h3, _, _, _, _, h⟩ | ⟨b, cap, _, h⟩
  · cases h; rfl
  · cases h; rfl
theorem SortIs.abs {α : Type} {f g : FuncId} {e : TypeId} {enc : α → List Value} {cf : α → α → Int} {lk : Nat} {f' : FuncId} {args : List Value} {s s' : HS} {v : Value} (h : SortIs f g e enc cf lk f' args s (v, s')) : Ab lk s s' := by
  obtain ⟨_, h⟩ := h
  rcases h with ⟨id, off, cap, cs, ds, h1, h2, _, h3, _, _, _, _, h⟩ | ⟨b, cap, _, h⟩
  · cases h
    refine ⟨Nat.le_refl _, fun _ i hi => T.get_put_ne _ _ _ (by omega), fun hB i hi => ?_⟩
    rw [T.get_put] at hi
    split at hi
    · rename_i h; subst h; exact hB i (by rw [h3]; simp)
    · exact hB i hi
  · cases h; exact Ab.refl _ _

theorem SortIs.ok {α : Type} [Inhabited α] {f g : FuncId} {e : TypeId} {enc : α → List Value} {cf : α → α → Int} {k : Nat} (hk : ∀ x, (enc x).length = k) (hint : ∀ x, ∀ v ∈ enc x, ∃ kd n, v = .int kd n)
    (henter : ∀ args w, (callFunc f args).run Tryd.prog w = .ok (.enter f args) w)
    (hnone : ∀ (p : Option Addr) (cap : Nat) (fv : Value) (w : World), Calls Tryd.prog f #[.slice p 0 cap, fv] w fun e w' => e = .returned (.tuple #[]) ∧ w' = w)
    (hsome : ∀ (blk off cap : Nat) (d : Array α) (w : World) (c : Array Value) (fz : Nat × Nat) (φ : Inj) (im : Img), w.heap[blk]? = some (.cells c e fz) → off + d.size * k ≤ c.size → (∀ j, j < d.size * k → c[off + j]? = ((d.toList.map enc).flatten)[j]?) →
      (∀ j, j < d.size * k → ¬ (fz.1 ≤ off + j ∧ off + j < fz.2)) → blk ≠ 0 → im.blk = 0 → im.sh = 0 → OR Tryd.prog φ im (w.heap[0]?) tabB → d.size < 4611686018427387904 →
      Calls Tryd.prog f #[.slice (some ⟨blk, off, none⟩) d.size cap, .func (.func g) #[] #[]] w fun e' w' => e' = .returned (.tuple #[]) ∧ ∃ c2 n os, PutAt c off (((srt cf d.toList).map enc).flatten) c2 ∧ w' = Go.Sort.grow (Go.Sort.ahead (setB w blk (.cells c2 e fz)) n) os)
    {lk : Nat} {f' : FuncId} {args : List Value} {s s' : HS} {v : Value} (h : SortIs f g e enc cf lk f' args s (v, s')) {φ : Inj} {w : World} {args' : List Value} (H : HR Tryd.prog φ s w) (hl : LR φ args args') :
    s.nx ≤ s'.nx ∧ (callFunc f' args'.toArray).run Tryd.prog w = .ok (.enter f' args'.toArray) w ∧ ∀ n ro, CallsIn (Fn ro) n Tryd.prog f' args'.toArray w (CPost Tryd.prog φ lk s w v s') := by
  have hnx := h.nx
  obtain ⟨rfl, h⟩ := h
  refine ⟨by omega, henter _ _, fun n ro => ?_⟩
  rw [← callsIn_Fn ro, Fn_wide]
  refine callsIn_wide.2 ?_
  have hfv : ∀ {x : Value}, VR φ (.func (.func g) #[] #[]) x → x = .func (.func g) #[] #[] := fun hx => by
    cases hx with
    | func fn fn' fi fi' ca ca' hf s1 h1 s2 h2 =>
      cases hf
      rw [Array.eq_empty_of_size_eq_zero s1.symm, Array.eq_empty_of_size_eq_zero s2.symm]
  have hfl : ∀ l : List α, (l.map enc).flatten.length = l.length * k := fun l => by
    rw [flat_len (size := k) fun x hx => by obtain ⟨y, _, rfl⟩ := List.mem_map.1 hx; exact hk y, List.length_map]
  have hin : ∀ l : List α, ∀ v ∈ (l.map enc).flatten, ∃ kd n, v = Value.int kd n := fun l v hv => by
    obtain ⟨x, hx, hvx⟩ := List.mem_flatten.1 hv
    obtain ⟨y, _, rfl⟩ := List.mem_map.1 hx
    exact hint y v hvx
  rcases h with ⟨id, off, cap, cs, ds, rfl, h1, h2, h3, h4, h5, h6, h7, hr⟩ | ⟨b, cap, rfl, hr⟩
  · cases hr
    obtain ⟨sv, r1, rfl, hsv, hl⟩ := hl.cons_inv
    obtain ⟨fv, r2, rfl, hv2, hl⟩ := hl.cons_inv
    obtain rfl := hl.nil_inv
    obtain rfl := hfv hv2
    have hshape : ∃ (im : Img) (cap' : Nat), φ id = some im ∧ sv = .slice (some ⟨im.blk, im.sh + off, none⟩) ds.length cap' := by
      generalize hlen : ds.length = m at hsv
      have hm : m ≠ 0 := fun h => h6 (List.eq_nil_of_length_eq_zero (by omega))
      cases hsv with
      | slice _ _ _ _ im hφ hc => exact ⟨im, _, hφ, rfl⟩
      | sliceU _ _ _ _ cap' im hφ hc k1 k2 k3 => exact ⟨im, _, hφ, rfl⟩
      | sliceE _ _ o' im hφ => exact absurd rfl hm
    obtain ⟨im, cap', him, rfl⟩ := hshape
    have hrl : ((srt cf ds).map enc).flatten.length = (ds.map enc).flatten.length := by rw [hfl, hfl, srt_len]
    obtain ⟨c, fz, q1, q2, q3, q4, q5⟩ := row_post H h3 h1 h4 (hin ds) (hin (srt cf ds)) hrl him
    obtain ⟨im0, g1, g2⟩ := H.obj 0 _ h5
    obtain ⟨im0', g3, g4, g5⟩ := H.glob 0 (by rw [globs]; decide)
    rw [g1] at g3
    cases g3
    have hne : im.blk ≠ 0 := by
      have := H.inj id 0 _ _ im im0 h3 h5 him g1 h2 (Or.inl rfl)
      rw [g4] at this; exact this
    rw [g4] at g2
    rw [hfl] at q2 q3 q4
    have key := hsome im.blk (im.sh + off) cap' ds.toArray w c fz φ im0 q1 (by simpa using q2) (by simpa using q3) (by simpa using q4) hne g4 g5 g2 (by simpa using h7)
    rw [show ds.toArray.size = ds.length by simp] at key
    refine Calls.mono key fun e' w' hp => ?_
    obtain ⟨rfl, c2, m, os, hp, rfl⟩ := hp
    exact ⟨_, φ, rfl, .tuple #[] #[] rfl (fun i v v' h => by simp at h), q5 c2 m os hp⟩
  · cases hr
    obtain ⟨sv, r1, rfl, hsv, hl⟩ := hl.cons_inv
    obtain ⟨fv, r2, rfl, hv2, hl⟩ := hl.cons_inv
    obtain rfl := hl.nil_inv
    have hshape : ∃ p cap', sv = .slice p 0 cap' := by
      cases hsv with
      | nilslice _ _ => exact ⟨_, _, rfl⟩
      | slice _ _ _ _ im hφ hc => exact ⟨_, _, rfl⟩
      | sliceU _ _ _ _ cap' im hφ hc k1 k2 k3 => exact ⟨_, _, rfl⟩
      | sliceE _ _ o' im hφ => exact ⟨_, _, rfl⟩
    obtain ⟨p, cap', rfl⟩ := hshape
    refine Calls.mono (hnone p cap' fv w) fun e' w' hp => ?_
    obtain ⟨rfl, rfl⟩ := hp
    exact ⟨_, φ, rfl, .tuple #[] #[] rfl (fun i v v' h => by simp at h), Post.refl H⟩

/-! ### The two sorts -/
theorem at_zero {w : World} {blk : Nat} {f : Array Value → Array Value} {m : Nat} {os : Array Obj} (hb : blk ≠ 0) (h0 : 0 < w.heap.size) : (Go.Sort.grow (mapBlock (Go.Sort.ahead w m) blk f) os).heap[0]? = w.heap[0]? := by
  show ((w.heap.modify blk (onCells f)) ++ os)[0]? = _
  rw [Array.getElem?_append_left (by simpa using h0), Array.getElem?_modify, if_neg hb]

theorem or_size {φ : Inj} {im : Img} {w : World} (ho : OR Tryd.prog φ im (w.heap[0]?) tabB) : 0 < w.heap.size := by
  obtain ⟨g0, c, fz, g1, _⟩ := ho
  exact (Array.getElem?_eq_some_iff.1 g1).1

def encS1 (u : US) : List Value := [encS u]
theorem encS1_flat (l : List US) : (l.map encS1).flatten = l.map encS := by
  induction l with
  | nil => rfl
  | cons x l ih => rw [List.map_cons, List.flatten_cons, ih]; rfl
theorem encS1_inj : ∀ x y : US, encS1 x = encS1 y → x = y := fun x y h => by
  unfold encS1 encS at h
  simp only [List.cons.injEq, Value.int.injEq, true_and, and_true] at h
  exact Subtype.ext (by omega)
theorem encE_inj : ∀ x y : Int × Int, encE x = encE y → x = y := fun x y h => by
  unfold encE at h
  simp only [List.cons.injEq, Value.int.injEq, true_and, and_true] at h
  exact Prod.ext h.1 h.2

theorem setSort {lk : Nat} {f' : FuncId} {args : List Value} {s s' : HS} {v : Value} (h : SortIs 42 43 60 encS1 cfS lk f' args s (v, s')) {φ : Inj} {w : World} {args' : List Value} (H : HR Tryd.prog φ s w) (hl : LR φ args args') :
    s.nx ≤ s'.nx ∧ (callFunc f' args'.toArray).run Tryd.prog w = .ok (.enter f' args'.toArray) w ∧ ∀ n ro, CallsIn (Fn ro) n Tryd.prog f' args'.toArray w (CPost Tryd.prog φ lk s w v s') := by
  refine SortIs.ok (k := 1) (fun _ => rfl) (fun x v hv => ?_) (enters_of Tryd.func42 (by kernel_rfl) rfl) (fun p cap fv w => AnyF.slices_SortFunc_none { Tryd.sortSet with } p cap fv w) (fun blk off cap d w c fz φ im q1 q2 q3 q4 hb g1 g2 g3 hsz => ?_) h H hl
  · unfold encS1 encS at hv
    simp only [List.mem_cons, List.not_mem_nil, or_false] at hv
    exact ⟨_, _, hv⟩
  · rw [encS1_flat, Nat.mul_one] at *
    have hh : Holds encS w blk off d := holds_of q1 rfl (by simpa using q3) (by simpa using q4)
    have hblk : blk < w.heap.size := (Array.getElem?_eq_some_iff.1 q1).1
    refine (Any.slices_SortFunc_total Tryd.sortSet encS (fun _ => rfl) cfS cfS_O.swo 43 #[] blk off cap d w (enters_of Tryd.func43 (by kernel_rfl) rfl) (fun m os dk _ x y => ?_) hh hblk hsz cfS_O.total).mono fun e' w' hp => ?_
    · refine clean_calls (W := sortWorld encS w blk off m dk os) g1 g2 (by rw [show (sortWorld encS w blk off m dk os).heap[0]? = w.heap[0]? from at_zero hb (or_size g3)]; exact g3) (args := [encS x, encS y]) (fun φ' => ⟨rfl, fun i v v' h h' => ?_⟩) (@f43_spec (Sorts.no Tryd.prog) x.1 y.1 sT sT_glob x.2 y.2)
      rw [h] at h'
      cases h'
      match i, h with
      | 0, h => cases h; exact .int .u64 _
      | 1, h => cases h; exact .int .u64 _
    · obtain ⟨rfl, m, os, rfl⟩ := hp
      have hl2 : (d.toList.mergeSort fun x y => !(ltOf cfS) y x).toArray.size = d.size := by simp
      refine ⟨rfl, _, m, os, putCells_at encS off (d.toList.mergeSort fun x y => !(ltOf cfS) y x).toArray c (by rw [hl2]; exact q2), ?_⟩
      unfold sortWorld putRow
      rw [mapBlock_setB (w := Go.Sort.ahead w m) q1]
      rfl

theorem edgeSort {lk : Nat} {f' : FuncId} {args : List Value} {s s' : HS} {v : Value} (h : SortIs 82 55 58 encE ordE lk f' args s (v, s')) {φ : Inj} {w : World} {args' : List Value} (H : HR Tryd.prog φ s w) (hl : LR φ args args') :
    s.nx ≤ s'.nx ∧ (callFunc f' args'.toArray).run Tryd.prog w = .ok (.enter f' args'.toArray) w ∧ ∀ n ro, CallsIn (Fn ro) n Tryd.prog f' args'.toArray w (CPost Tryd.prog φ lk s w v s') := by
  refine SortIs.ok (k := 2) (fun _ => rfl) (fun x v hv => ?_) (enters_of Tryd.func82 (by kernel_rfl) rfl) (fun p cap fv w => AnyF.slices_SortFunc_none { Tryd.sortEdge with } p cap fv w) (fun blk off cap d w c fz φ im q1 q2 q3 q4 hb g1 g2 g3 hsz => ?_) h H hl
  · unfold encE at hv
    simp only [List.mem_cons, List.not_mem_nil, or_false] at hv
    rcases hv with h | h <;> exact ⟨_, _, h⟩
  · have hf := flatK_list encE 2 (fun _ => rfl) (by decide) d
    have hh : HoldsK encE 2 w blk off d := by
      refine holds_of (F := (d.toList.map encE).flatten) q1 (by rw [List.map_id, hf]) (fun j hj => q3 j ?_) (fun j hj => q4 j ?_)
      · rw [← hf, Array.length_toList, size_flatK] at hj; exact hj
      · rw [← hf, Array.length_toList, size_flatK] at hj; exact hj
    have hblk : blk < w.heap.size := (Array.getElem?_eq_some_iff.1 q1).1
    refine (AnyQ.slices_SortFunc_total Tryd.sortEdge 2 Tryd.isAgg58 Tryd.sizeOf58 encE (fun _ => rfl) (fun x v hv => ?_) ordE ordE_O.swo 55 #[] blk off cap d w (enters_of Tryd.func55 (by kernel_rfl) rfl) (fun m os dk _ x y => ?_) hh hblk hsz ordE_O.total).mono fun e' w' hp => ?_
    · unfold encE at hv
      simp only [List.mem_cons, List.not_mem_nil, or_false] at hv
      rcases hv with h | h <;> rw [h] <;> rfl
    · refine clean_calls (W := sortWorldK encE 2 w blk off m dk os) g1 g2 (by rw [show (sortWorldK encE 2 w blk off m dk os).heap[0]? = w.heap[0]? from at_zero hb (or_size g3)]; exact g3) (args := [vE x, vE y]) (fun φ' => ⟨rfl, fun i v v' h h' => ?_⟩) (@f55_spec (Sorts.no Tryd.prog) x y sT)
      rw [h] at h'
      cases h'
      match i, h with
      | 0, h => cases h; exact VR.plain 1 _ rfl
      | 1, h => cases h; exact VR.plain 1 _ rfl
    · obtain ⟨rfl, m, os, rfl⟩ := hp
      have hl2 : (d.toList.mergeSort fun x y => !(ltOf ordE) y x).toArray.size = d.size := by simp
      refine ⟨rfl, _, m, os, putCells_flat encE 2 (fun _ => rfl) (by decide) off (d.toList.mergeSort fun x y => !(ltOf ordE) y x).toArray c (by rw [hl2]; exact q2), ?_⟩
      unfold sortWorldK putRowK putRow
      rw [mapBlock_setB (w := Go.Sort.ahead w m) q1]
      rfl

/-- What the sorts answer. -/
def SortAll (lk : Nat) (f : FuncId) (args : List Value) (s : HS) (r : Value × HS) : Prop := SortIs 42 43 60 encS1 cfS lk f args s r ∨ SortIs 82 55 58 encE ordE lk f args s r
theorem SortAll.uniq {lk lk' : Nat} {f : FuncId} {args : List Value} {s : HS} {r r' : Value × HS} (h : SortAll lk f args s r) (h' : SortAll lk' f args s r') : r = r' := by
  rcases h with h | h <;> rcases h' with h' | h'
  · exact h.uniq (k := 1) (fun _ => rfl) encS1_inj h'
  · exact absurd (h.1.symm.trans h'.1) (by decide)
  · exact absurd (h.1.symm.trans h'.1) (by decide)
  · exact h.uniq (k := 2) (fun _ => rfl) encE_inj h'

open Classical in
noncomputable instance theSorts : Sorts Tryd.prog where
  ans := fun lk f args s => if h : ∃ r, SortAll lk f args s r then some (Classical.choose h) else none
  mono := fun {lk f args s v s'} h => by
    split at h
    · rename_i hc
      have hs := Classical.choose_spec hc
      simp only [Option.some.injEq] at h
      rw [h] at hs
      rcases hs with hs | hs
      · have := hs.nx; omega
      · have := hs.nx; omega
    · cases h
  ab := fun {lk f args s v s'} _ h => by
    split at h
    · rename_i hc
      have hs := Classical.choose_spec hc
      simp only [Option.some.injEq] at h
      rw [h] at hs
      rcases hs with hs | hs
      · exact hs.abs
      · exact hs.abs
    · cases h
  le := fun {lk lk' f args s r} hl h => by
    split at h
    · rename_i hc
      have hs := Classical.choose_spec hc
      simp only [Option.some.injEq] at h
      rw [h] at hs
      have hs' : SortAll lk' f args s r := by
        rcases hs with hs | hs
        · exact Or.inl (hs.lower hl)
        · exact Or.inr (hs.lower hl)
      have hc' : ∃ r, SortAll lk' f args s r := ⟨r, hs'⟩
      rw [dif_pos hc', (Classical.choose_spec hc').uniq hs']
    · cases h
  ok := fun {lk f args s v s'} h {φ w args'} H hl _ _ => by
    split at h
    · rename_i hc
      have hs := Classical.choose_spec hc
      simp only [Option.some.injEq] at h
      rw [h] at hs
      rcases hs with hs | hs
      · exact setSort hs H hl
      · exact edgeSort hs H hl
    · cases h

open Classical in
theorem sorts_ans {lk : Nat} {f : FuncId} {args : List Value} {s : HS} {r : Value × HS} (h : SortAll lk f args s r) : Sorts.ans (P := Tryd.prog) lk f args s = some r := by
  have hc : ∃ r, SortAll lk f args s r := ⟨r, h⟩
  show (if h : ∃ r, SortAll lk f args s r then some (Classical.choose h) else none) = some r
  rw [dif_pos hc, (Classical.choose_spec hc).uniq h]
end Go.Ev

/- removable.closed's closure; the sort of found sets; lists. -/
namespace Go.Ev
open Go Go.Proofs
set_option linter.unusedSimpArgs false
set_option linter.unusedVariables false
set_option maxRecDepth 100000
set_option maxHeartbeats 4000000
attribute [local irreducible] wpOps wpC wpD wpF wpLoop wpCall seqK blockK loopK retK T.put T.get T.setF

theorem f37_spec [Sorts Tryd.prog] (hv av : Value) (s : HS) (h1 : hv.cells = #[hv]) (h2 : av.cells = #[av]) :
    wpF Tryd.prog s.nx 37 [hv, av] s (fun v s' => v = .func (.func 56) #[] #[.pointer (some ⟨s.nx, 0, none⟩), .pointer (some ⟨s.nx + 1, 0, none⟩)] ∧ s' = { hp := (s.hp.put s.nx (some (.cells true 65 [hv]))).put (s.nx + 1) (some (.cells true 70 [av])), nx := s.nx + 2 }) := by
  refine wpF_of Tryd.func37 rfl rfl rfl rfl (Nat.le_refl _) ?_
  simp only [paramsA]
  repeat (first
  | with_reducible first | refine st (by constructor) ?_ | apply c_region
  | (with_reducible apply k_block_on
     · decide)
  | ((with_reducible first | apply xOp | apply xDr | apply xIf); rfl; (simp only [Nat.reduceEqDiff, Nat.reduceAdd, ↓reduceIte, xBB, stG, undef, opA, val, opdA, opdO, plainN, omap, binA, intBinA, loadV, readA, storeV, writeA, fieldAddrA, indexAddrA, lenA, builtinA, newA, unA, packA, Value.cells, sz65, sz70, h1, h2]; rfl); first | rfl | exact ⟨rfl, rfl, rfl⟩))
  intro _
  ((with_reducible first | apply ret_i | apply ret_n); (simp only [Nat.reduceEqDiff, Nat.reduceAdd, ↓reduceIte, xBB, resA, opdA, opdO, plainN, omap, val, loadV, readA, packA]; rfl))
  refine ⟨rfl, ?_⟩
  show ({ hp := (s.hp.put s.nx (some (.cells true 65 hv.cells.toList))).put (s.nx + 1) (some (.cells true 70 av.cells.toList)), nx := s.nx + 2 } : HS) = _
  rw [h1, h2]

theorem f38_spec [Sorts Tryd.prog] (x : Nat) (s : HS) : wpF Tryd.prog s.nx 38 [.int .u64 x] s (fun v s' => v = .bool true) := by
  refine wpF_of Tryd.func38 rfl rfl rfl rfl (Nat.le_refl _) ?_
  simp only [paramsA]
  repeat (first
  | with_reducible first | refine st (by constructor) ?_ | apply c_region
  | (with_reducible apply k_block_on
     · decide)
  | ((with_reducible first | apply xOp | apply xDr | apply xIf); rfl; (simp only [Nat.reduceEqDiff, Nat.reduceAdd, ↓reduceIte, xBB, stG, undef, opA, val, opdA, opdO, plainN, omap, binA, intBinA, loadV, readA, storeV, writeA, fieldAddrA, indexAddrA, lenA, builtinA, newA, unA, packA, Value.cells]; rfl); first | rfl | exact ⟨rfl, rfl, rfl⟩))
  intro _
  ((with_reducible first | apply ret_i | apply ret_n); (simp only [Nat.reduceEqDiff, Nat.reduceAdd, ↓reduceIte, xBB, resA, opdA, opdO, plainN, omap, val, loadV, readA, packA]; rfl))
  rfl
theorem allow_any : Allow (.func (.func 38) #[] #[]) fun _ => true := fun x s _ => call_fn (f38_spec x s)
theorem allow_lim (all : Nat) (most wo : Int) : Allow (.func (.func 32) #[vL all most wo] #[]) (allowB all most wo) := fun x s hx => by
  apply call_first
  exact f32_spec all most wo x s hx

/-! ### The sort -/
def toU (y : Nat) : US := ⟨y % 18446744073709551616, Nat.mod_lt _ (by decide)⟩
theorem toU_enc {ys : List Nat} (h : ∀ y ∈ ys, y < 18446744073709551616) : (ys.map toU).map encS1 = ys.map encQ := by
  rw [List.map_map]
  refine List.map_congr_left fun y hy => ?_
  show [Value.int .u64 ((y % 18446744073709551616 : Nat) : Int)] = _
  rw [Nat.mod_eq_of_lt (h y hy)]; rfl
/-- Found sets in order. -/
def srtN (ys : List Nat) : List Nat := (srt cfS (ys.map toU)).map (·.1)
theorem srtN_enc (ys : List Nat) : (srt cfS (ys.map toU)).map encS1 = (srtN ys).map encQ := by unfold srtN; rw [List.map_map]; rfl
theorem srtN_len (ys : List Nat) : (srtN ys).length = ys.length := by unfold srtN; rw [List.length_map, srt_len, List.length_map]
theorem srtN_nil : srtN [] = [] := List.eq_nil_of_length_eq_zero (srtN_len [])
theorem encQ_len (ys : List Nat) : (ys.map encQ).flatten.length = ys.length := by rw [flat_len (size := 1) fun x hx => by obtain ⟨y, _, rfl⟩ := List.mem_map.1 hx; rfl, List.length_map, Nat.mul_one]

theorem sort_own {lk : Nat} {s : HS} {o : Option Nat} {v : Value} {ys : List Nat} (h : Own s 60 1 o v (ys.map encQ)) (hy : ∀ y ∈ ys, y < 18446744073709551616) (hlk : ∀ id, o = some id → lk ≤ id ∧ id ≠ 0) (hgl : Glob s) (hlen : ys.length ≤ 100000) :
    ∃ s', Sorts.ans (P := Tryd.prog) lk 42 [v, .func (.func 43) #[] #[]] s = some (.tuple #[], s') ∧ s'.nx = s.nx ∧ Own s' 60 1 o v ((srtN ys).map encQ) ∧ ∀ i, o ≠ some i → s'.hp.get i = s.hp.get i := by
  by_cases hnil : ys = []
  · subst hnil
    obtain ⟨b, c, rfl⟩ := h.shape
    exact ⟨s, sorts_ans (Or.inl ⟨rfl, Or.inr ⟨b, c, rfl, rfl⟩⟩), rfl, by rw [srtN_nil]; exact h, fun _ _ => rfl⟩
  · cases o with
    | none =>
      obtain ⟨h1, _⟩ := h
      exact absurd (List.map_eq_nil_iff.1 h1) hnil
    | some id =>
      obtain ⟨hl1, hl2⟩ := hlk id rfl
      obtain ⟨h1, h2, h2', off, cap, cs, rfl, h3, h4, h5, post, h6⟩ := h
      have hfl := encQ_len ys
      have hfs := encQ_len (srtN ys)
      rw [srtN_len] at hfs
      have hle : off + ys.length ≤ cs.length := by
        have := congrArg List.length h6
        rw [List.length_drop, List.length_append, hfl] at this
        omega
      have hcut : cutL cs off (((ys.map toU).map encS1).flatten).length = some ((ys.map toU).map encS1).flatten := by
        rw [toU_enc hy]
        exact cut_all h6 h5 rfl
      have hans : SortAll lk 42 [.slice (some ⟨id, off, none⟩) (ys.map encQ).length cap, .func (.func 43) #[] #[]] s (.tuple #[], { s with hp := s.hp.put id (some (.cells true 60 (putL cs off ((srtN ys).map encQ).flatten))) }) := by
        refine Or.inl ⟨rfl, Or.inl ⟨id, off, cap, cs, ys.map toU, by rw [List.length_map, List.length_map], hl1, hl2, h4, hcut, hgl.2, by simpa using hnil, by rw [List.length_map]; omega, ?_⟩⟩
        rw [srtN_enc]
      refine ⟨_, sorts_ans hans, rfl, ?_, fun i hi => T.get_put_ne _ _ _ fun e => hi (by rw [e])⟩
      have hxl : (ys.map encQ).length = ((srtN ys).map encQ).length := by rw [List.length_map, List.length_map, srtN_len]
      rw [hxl] at h3 h2' ⊢
      refine ⟨h1, fun x hx => ?_, h2', off, cap, _, rfl, h3, T.get_put_eq _ _ _, ?_, post.drop 0, ?_⟩
      · obtain ⟨y, _, rfl⟩ := List.mem_map.1 hx; exact ⟨rfl, rfl⟩
      · rw [putL_len (by rw [hfs]; exact hle)]; exact h5
      · have hp : post = cs.drop (off + ys.length) := by
          rw [← List.drop_drop, h6, ← hfl, List.drop_left]
        unfold putL
        rw [List.drop_append_of_le_length (by rw [List.length_take]; omega), List.drop_eq_nil_of_le (by rw [List.length_take]; omega), List.nil_append, hfs, List.drop_zero, hp]

theorem f30_spec [Sorts Tryd.prog] (zs : List Nat) (lv : Value) (s : HS) (hgl : Glob s) (hl : Sl s 1 lv (zs.map encQ)) (hz : ∀ z ∈ zs, z < 18446744073709551616) (hlen : zs.length ≤ 100000) :
    wpF Tryd.prog s.nx 30 [lv] s (fun v s' => LlsN s s' v (zs.map fun a => nodesL a 64)) := by
  obtain ⟨b, c, rfl⟩ := hl.shape
  have hzm : (zs.map encQ).length = zs.length := List.length_map _
  refine wpF_of Tryd.func30 rfl rfl rfl rfl (Nat.le_refl _) ?_
  simp only [paramsA]
  repeat (first
  | with_reducible first | refine st (by constructor) ?_ | apply c_region
  | (with_reducible apply k_block_on
     · decide)
  | ((with_reducible first | apply xOp | apply xDr | apply xIf); rfl; (simp only [Nat.reduceEqDiff, Nat.reduceAdd, ↓reduceIte, xBB, stG, undef, opA, val, opdA, opdO, plainN, omap, binA, intBinA, loadV, readA, storeV, writeA, fieldAddrA, indexAddrA, lenA, builtinA, newA, unA, packA, Value.cells, un65, hzm]; rfl); first | rfl | exact ⟨rfl, rfl, rfl⟩))
  refine loop_k (lk' := s.nx) (s0 := s) (fun m f t => ∃ k : Nat, k + m = zs.length ∧ f.get 8 = some (.int .i64 k) ∧ ∃ (o : Option Nat) (v : Value), f.get 3 = some v ∧ Bld t (fun id => id < s.nx) o v ((zs.take k).map fun a => nodesL a 64) ∧ newer s o) zs.length (Nat.le_refl _) (Nat.le_refl _) ?_ (Ab.refl _ _) ?_
  · exact ⟨0, by omega, by simp only [Nat.reduceEqDiff, T.get_put, ↓reduceIte]; rfl, none, _, by simp only [Nat.reduceEqDiff, T.get_put, ↓reduceIte], Bld.nil, fun _ h => (by cases h)⟩
  · rintro m f t ⟨k, hk, h8, o, v, h3, hB, hnew⟩ hA hF
    (have k6 := hF 6 (by rfl); simp only [Nat.reduceEqDiff, T.get_put, ↓reduceIte, hzm] at k6; have k7 := hF 7 (by rfl); simp only [Nat.reduceEqDiff, T.get_put, ↓reduceIte, hzm] at k7)
    have hnt := hA.nx
    by_cases hlt : (k : Int) < (zs.length : Int)
    · have hlt' : k < zs.length := by omega
      have hw : IntKind.i64.wrap ((k : Int) + 1) = ((k + 1 : Nat) : Int) := by rw [IntWalk.i64_in _ (by omega)]; rfl
      have hb0 : (0 : Int) ≤ (k : Int) ∧ (k : Int) < (zs.length : Int) := by omega
      have hl2 := hl.keep hA
      obtain ⟨id, off, wr, e, cs, rfl, g1, g2, g3, g4⟩ := hl2.at (i := k) (x := encQ zs[k]) (by simp [hlt'])
      unfold encQ at g3
      obtain ⟨vb, vc, rfl⟩ := hB.shape
      repeat (first
  | with_reducible first | refine st (by constructor) ?_ | apply c_region
  | (with_reducible apply k_block_on
     · decide)
  | ((with_reducible first | apply xOp | apply xDr | apply xIf); rfl; (simp only [Nat.reduceEqDiff, Nat.reduceAdd, ↓reduceIte, xBB, stG, undef, opA, val, opdA, opdO, plainN, omap, binA, intBinA, loadV, readA, storeV, writeA, fieldAddrA, indexAddrA, lenA, builtinA, newA, unA, packA, Value.cells, h8, k7, k6, hzm, hlt, un65, sz60, ty60, hb0, g1, g3, h3]; rfl); first | rfl | exact ⟨rfl, rfl, rfl⟩))
      ((with_reducible first | apply xCa | apply xCd); rfl; (simp only [Nat.reduceEqDiff, Nat.reduceAdd, ↓reduceIte, xBB, stB, opdA, opdO, plainN, omap, val, Value.cells]; exact ⟨rfl, rfl⟩); try rfl)
      apply call_fn
      refine (f34_spec zs[k] t (hgl.keep hA) (hz _ (List.getElem_mem hlt'))).use hnt (Nat.le_refl _) fun r t1 hv hA1 => ?_
      obtain ⟨ol, hol, hnl⟩ := hv
      obtain ⟨lb, lc, rfl⟩ := hol.shape
      have hn1 := hA1.nx
      refine opt_of rfl ?_
      repeat (first
  | with_reducible first | refine st (by constructor) ?_ | apply c_region
  | (with_reducible apply k_block_on
     · decide)
  | ((with_reducible first | apply xOp | apply xDr | apply xIf); rfl; (simp only [Nat.reduceEqDiff, Nat.reduceAdd, ↓reduceIte, xBB, stG, undef, opA, val, opdA, opdO, plainN, omap, binA, intBinA, loadV, readA, storeV, writeA, fieldAddrA, indexAddrA, lenA, builtinA, newA, unA, packA, Value.cells, buildSliceA, el30, sz35, zr35, zerosL, fillA]; rfl); first | rfl | exact ⟨rfl, rfl, rfl⟩))
      ((with_reducible first | apply ops_opt | apply xPd); (first | rfl | exact ⟨rfl, rfl⟩); (simp only [Nat.reduceEqDiff, Nat.reduceAdd, ↓reduceIte, xBB, opA, val, opdA, opdO, plainN, omap, binA, intBinA, loadV, readA, storeV, writeA, fieldAddrA, indexAddrA, lenA, builtinA, newA, unA, packA, Value.cells, un30, un35, h3]; rfl))
      generalize hst0 : ({ hp := t1.hp.put t1.nx (some (.cells true 35 (putL ([.slice none 0 0] ++ []) (0 * 1) [.slice lb ((nodesL zs[k] 64).map encI).length lc]))), nx := t1.nx + 1 } : HS) = w
      have hwn : w.nx = t1.nx + 1 := by rw [← hst0]
      have hwo : ∀ id, id < t1.nx → w.hp.get id = t1.hp.get id := fun id h => by rw [← hst0]; exact T.get_put_ne _ _ _ (by omega)
      have hwy : w.hp.get t1.nx = some (.cells true 35 [.slice lb ((nodesL zs[k] 64).map encI).length lc]) := by rw [← hst0]; exact T.get_put_eq _ _ _
      have hol2 : Own w 3 1 ol _ _ := hol.same (by omega) fun id h => hwo id (hol.lt h)
      have hB4 : Bld w (fun id => id < s.nx) o _ _ := hB.same (by omega) (fun id h _ => (hwo id (by omega)).trans (hA1.get (Nat.le_refl _) h)) fun id h => Or.inl h
      refine opt_ex (app_bld (lk := s.nx) (l := nodesL zs[k] 64) hB4 (fun id h => hnew id h) hwy (SlB.of_own hol2 fun id h h2 => ?_) (by simp; omega) (by omega)) fun q hq => ?_
      · have h4 := hnl id h
        rcases h2 with h2 | h2
        · have := hB.lt h2; omega
        · omega
      obtain ⟨qv, s5⟩ := q
      obtain ⟨u1, u2, o', u3, u4⟩ := hq
      dsimp only at u1 u2 u3
      refine opt_of rfl ?_
      repeat (first
  | with_reducible first | refine st (by constructor) ?_ | apply c_region
  | (with_reducible apply k_block_on
     · decide)
  | ((with_reducible first | apply xOp | apply xDr | apply xIf); rfl; (simp only [Nat.reduceEqDiff, Nat.reduceAdd, ↓reduceIte, xBB, stG, undef, opA, val, opdA, opdO, plainN, omap, binA, intBinA, loadV, readA, storeV, writeA, fieldAddrA, indexAddrA, lenA, builtinA, newA, unA, packA, Value.cells, h8, hw]; rfl); first | rfl | exact ⟨rfl, rfl, rfl⟩))
      intro _ _
      refine k_loop_next (m' := m - 1) (by omega) ⟨k + 1, by omega, by simp only [Nat.reduceEqDiff, T.get_put, ↓reduceIte], o', qv, by simp only [Nat.reduceEqDiff, T.get_put, ↓reduceIte], ?_, fun id h => ?_⟩
      · rw [List.take_succ_eq_append_getElem hlt', List.map_append]; exact u3
      · rcases u4 with rfl | rfl
        · exact hnew id h
        · cases h; omega
    · have hkn : k = zs.length := by omega
      repeat (first
  | with_reducible first | refine st (by constructor) ?_ | apply c_region
  | (with_reducible apply k_block_on
     · decide)
  | ((with_reducible first | apply xOp | apply xDr | apply xIf); rfl; (simp only [Nat.reduceEqDiff, Nat.reduceAdd, ↓reduceIte, xBB, stG, undef, opA, val, opdA, opdO, plainN, omap, binA, intBinA, loadV, readA, storeV, writeA, fieldAddrA, indexAddrA, lenA, builtinA, newA, unA, packA, Value.cells, h8, k7, hzm, hlt]; rfl); first | rfl | exact ⟨rfl, rfl, rfl⟩))
      intro _ _
      repeat (first
  | with_reducible first | refine st (by constructor) ?_ | apply c_region
  | (with_reducible apply k_block_on
     · decide)
  | ((with_reducible first | apply xOp | apply xDr | apply xIf); rfl; (simp only [Nat.reduceEqDiff, Nat.reduceAdd, ↓reduceIte, xBB, stG, undef, opA, val, opdA, opdO, plainN, omap, binA, intBinA, loadV, readA, storeV, writeA, fieldAddrA, indexAddrA, lenA, builtinA, newA, unA, packA, Value.cells, h3]; rfl); first | rfl | exact ⟨rfl, rfl, rfl⟩))
      intro _
      ((with_reducible first | apply ret_i | apply ret_n); (simp only [Nat.reduceEqDiff, Nat.reduceAdd, ↓reduceIte, xBB, resA, opdA, opdO, plainN, omap, val, loadV, readA, packA]; rfl))
      rw [hkn, List.take_length] at hB
      exact ⟨o, hB⟩
end Go.Ev

/- removable.sets. -/
namespace Go.Ev
open Go Go.Proofs
set_option linter.unusedSimpArgs false
set_option linter.unusedVariables false
set_option maxRecDepth 100000
set_option maxHeartbeats 4000000
attribute [local irreducible] wpOps wpC wpD wpF wpLoop wpCall seqK blockK loopK retK T.put T.get T.setF

theorem ty32' : tyA Tryd.prog 32 = some (1, false) := by kernel_rfl
/-- The memory of the loop that collects the found sets. -/
def J29 (lk : Nat) (L : ALoop) (l b4 b5 b6 : Nat) (ys : List Nat) (Cs : Nat → Prop) (t : HS) : Prop := ∃ (o : Option Nat) (v : Value), Cs = (fun id => id = l ∨ id = b6 ∨ id = b4 ∨ id = b5 ∨ o = some id) ∧ t.hp.get l = some (.loop L) ∧ t.hp.get b6 = some (.cells true 65 [v]) ∧
  t.hp.get b4 = some (.cells true 65 [.slice none 0 0]) ∧ t.hp.get b5 = some (.cells true 32 [.int .i64 0]) ∧ Own t 60 1 o v (ys.map encQ) ∧ (∀ id, o = some id → lk ≤ id ∧ id ≠ l ∧ id ≠ b6 ∧ id ≠ b4 ∧ id ≠ b5) ∧ ys.length ≤ 1024 ∧ l < t.nx ∧ b6 < t.nx ∧ b4 < t.nx ∧ b5 < t.nx
def Stop29 (l b4 b5 : Nat) (ys : List Nat) (t : HS) : Prop := ys.length = 1025 ∧ (∃ L : ALoop, t.hp.get l = some (.loop L) ∧ L.state = .done ∧ L.pending = some .ret) ∧ t.hp.get b4 = some (.cells true 65 [.slice none 0 0]) ∧ t.hp.get b5 = some (.cells true 32 [.int .i64 6])

theorem f29_spec (n : Nat) (es : List (Int × Int)) (ev : Value) (all : Nat) (most wo : Int) (s : HS) (hgl : Glob s) (hs : Sl s 2 ev (es.map encE)) (hc : checkR n es = 0) :
    wpF Tryd.prog s.nx 29 [vG n ev, vL all most wo] s (fun v s' => ∃ ys, Found (HNs n es) (allowB all most wo) ys ∧
      ((ys.length = 1025 ∧ v = .tuple #[.slice none 0 0, .int .i64 6]) ∨ (ys.length ≤ 1024 ∧ (∀ S, Gn (HNs n es) (allowB all most wo) S → S = 0 ∨ S ∈ ys) ∧ ∃ (o : Option Nat) (lv : Value), v = .tuple #[lv, .int .i64 0] ∧ Own s' 60 1 o lv ((srtN ys).map encQ)))) := by
  have hg := good_of hc
  have hn64 : n ≤ 64 := by have := hg.hi; omega
  have h64 : (2 : Nat) ^ n ≤ 2 ^ 64 := Nat.pow_le_pow_right (by decide) hn64
  refine wpF_of Tryd.func29 rfl rfl rfl rfl (Nat.le_refl _) ?_
  simp only [paramsA, vG, vL]
  repeat (first
  | with_reducible first | refine st (by constructor) ?_ | apply c_region
  | (with_reducible apply k_block_on
     · decide)
  | ((with_reducible first | apply xOp | apply xDr | apply xIf); rfl; (simp only [Nat.reduceEqDiff, Nat.reduceAdd, ↓reduceIte, xBB, stG, undef, opA, val, opdA, opdO, plainN, omap, binA, intBinA, loadV, readA, storeV, writeA, fieldAddrA, indexAddrA, lenA, builtinA, newA, unA, packA, Value.cells, sz28, sz62, zr65, sz65, zr32, sz32]; rfl); first | rfl | exact ⟨rfl, rfl, rfl⟩))
  generalize hw0 : ({ hp := ((((s.hp.put s.nx (some (.cells true 28 [.int .i64 n, ev]))).put (s.nx + 1) (some (.cells true 62 [.int .u64 all, .int .i64 most, .int .i64 wo]))).put (s.nx + 2) (some (.cells true 65 [.slice none 0 0]))).put (s.nx + 3) (some (.cells true 32 [.int .i64 0]))).put (s.nx + 4) (some (.cells true 65 [.slice none 0 0])), nx := s.nx + 5 } : HS) = w0
  have hwn : w0.nx = s.nx + 5 := by rw [← hw0]
  have hwo : ∀ id, id < s.nx → w0.hp.get id = s.hp.get id := fun id h => by
    rw [← hw0]; dsimp only
    rw [T.get_put_ne _ _ _ (by omega), T.get_put_ne _ _ _ (by omega), T.get_put_ne _ _ _ (by omega), T.get_put_ne _ _ _ (by omega), T.get_put_ne _ _ _ (by omega)]
  have hb2 : w0.hp.get s.nx = some (.cells true 28 [.int .i64 n, ev]) := by
    rw [← hw0]; dsimp only
    rw [T.get_put_ne _ _ _ (by omega), T.get_put_ne _ _ _ (by omega), T.get_put_ne _ _ _ (by omega), T.get_put_ne _ _ _ (by omega), T.get_put_eq]
  have hb3 : w0.hp.get (s.nx + 1) = some (.cells true 62 [.int .u64 all, .int .i64 most, .int .i64 wo]) := by
    rw [← hw0]; dsimp only
    rw [T.get_put_ne _ _ _ (by omega), T.get_put_ne _ _ _ (by omega), T.get_put_ne _ _ _ (by omega), T.get_put_eq]
  have hb4 : w0.hp.get (s.nx + 2) = some (.cells true 65 [.slice none 0 0]) := by
    rw [← hw0]; dsimp only
    rw [T.get_put_ne _ _ _ (by omega), T.get_put_ne _ _ _ (by omega), T.get_put_eq]
  have hb5 : w0.hp.get (s.nx + 3) = some (.cells true 32 [.int .i64 0]) := by
    rw [← hw0]; dsimp only
    rw [T.get_put_ne _ _ _ (by omega), T.get_put_eq]
  have hb6 : w0.hp.get (s.nx + 4) = some (.cells true 65 [.slice none 0 0]) := by rw [← hw0]; exact T.get_put_eq _ _ _
  clear hw0
  have hc2 : cutL [Value.int .i64 (n : Int), ev] 0 2 = some [.int .i64 n, ev] := rfl
  have hc3 : ∀ a b c : Value, cutL [a, b, c] 0 3 = some [a, b, c] := fun _ _ _ => rfl
  refine c_draw [⟨false, [], none⟩, ⟨false, [], none⟩, ⟨false, [0, 1], none⟩, ⟨false, [], none⟩, ⟨true, [], none⟩] (by kernel_rfl) ?_
  repeat (first
  | with_reducible first | refine st (by constructor) ?_ | apply c_region
  | (with_reducible apply k_block_on
     · decide)
  | ((with_reducible first | apply xOp | apply xDr | apply xIf); rfl; (simp only [Nat.reduceEqDiff, Nat.reduceAdd, ↓reduceIte, xBB, stG, undef, opA, val, opdA, opdO, plainN, omap, binA, intBinA, loadV, readA, storeV, writeA, fieldAddrA, indexAddrA, lenA, builtinA, newA, unA, packA, Value.cells, hb2, ty28, hc2, List.toList_toArray]; rfl); first | rfl | exact ⟨rfl, rfl, rfl⟩))
  ((with_reducible first | apply xCa | apply xCd); rfl; (simp only [Nat.reduceEqDiff, Nat.reduceAdd, ↓reduceIte, xBB, stB, opdA, opdO, plainN, omap, val, Value.cells]; exact ⟨rfl, rfl⟩); try rfl)
  apply call_fn
  refine (f31_spec n es ev w0 (hs.same (by omega) hwo) hc).use (by first | exact Nat.le_refl _ | (simp only [cond_true, cond_false]; omega) | omega | (dsimp only; omega)) (by first | exact Nat.le_refl _ | (simp only [cond_true, cond_false]; omega) | omega | (dsimp only; omega)) fun v s1 hv hA1 => ?_
  obtain ⟨oh, hown⟩ := hv
  rw [hullsL_eq] at hown
  have hn1 := hA1.nx
  obtain ⟨hvb, hvc, rfl⟩ := hown.shape
  have hb3' := (hA1.get (Nat.le_refl _) (show s.nx + 1 < w0.nx by omega)).trans hb3
  refine opt_of rfl ?_
  (first
      | (with_reducible apply d_lowS (lo := w0.nx)
         · rfl
         · rfl
         · rfl
         · (intro m hm hmm; simp only [List.mem_cons, List.not_mem_nil, or_false] at hm; first | (obtain rfl := hm; dsimp only; omega) | (rcases hm with rfl | rfl <;> first | omega | (dsimp only; omega) | (exfalso; revert hmm; decide)) | (rcases hm with rfl | rfl | rfl <;> first | omega | (dsimp only; omega) | (exfalso; revert hmm; decide)))
         · (intro sh hshn hshg; have l_hb3' := (hshg _ (by omega)).trans hb3'; simp only [Nat.reduceEqDiff, opA, val, opdA, opdO, T.get_put, ↓reduceIte, Nat.add_assoc, Nat.reduceAdd, Nat.left_eq_add, Nat.add_eq_left, Nat.add_left_cancel_iff, Nat.add_zero, plainN, omap, Option.map_some, Option.bind_some, Nat.le_add_right, Nat.le_refl, binA, intBinA, loadV, readA, storeV, writeA, fieldAddrA, indexAddrA, lenA, builtinA, newA, unA, packA, if_true, and_self, and_true, true_and, Value.cells, Int.toNat_natCast, decide_true, decide_false, cond_true, cond_false, ty62, hc3, List.toList_toArray, l_hb3']; rfl)
         · rfl))
  intro s2 h2n h2g
  have hA12 : Ab w0.nx w0 s2 := ⟨by omega, fun _ id h => (h2g id).trans (hA1.get (Nat.le_refl _) h), fun hB id h => by rw [h2n]; exact hA1.bnd hB id (by rw [← h2g]; exact h)⟩
  have hown2 : Own s2 60 1 oh _ _ := hown.same (by omega) fun id h => h2g id
  repeat (first
  | with_reducible first | refine st (by constructor) ?_ | apply c_region
  | (with_reducible apply k_block_on
     · decide)
  | ((with_reducible first | apply xOp | apply xDr | apply xIf); rfl; (simp only [Nat.reduceEqDiff, Nat.reduceAdd, ↓reduceIte, xBB, stG, undef, opA, val, opdA, opdO, plainN, omap, binA, intBinA, loadV, readA, storeV, writeA, fieldAddrA, indexAddrA, lenA, builtinA, newA, unA, packA, Value.cells]; rfl); first | rfl | exact ⟨rfl, rfl, rfl⟩))
  ((with_reducible first | apply xCa | apply xCd); rfl; (simp only [Nat.reduceEqDiff, Nat.reduceAdd, ↓reduceIte, xBB, stB, opdA, opdO, plainN, omap, val, Value.cells]; exact ⟨rfl, rfl⟩); try rfl)
  apply call_fn
  refine (f37_spec _ _ s2 rfl rfl).use (by first | exact Nat.le_refl _ | (simp only [cond_true, cond_false]; omega) | omega | (dsimp only; omega)) (by first | exact Nat.le_refl _ | (simp only [cond_true, cond_false]; omega) | omega | (dsimp only; omega)) fun v s3 hv hA3 => ?_
  obtain ⟨rfl, hs3⟩ := hv
  have h3n : s3.nx = s2.nx + 2 := by rw [hs3]
  have h3o : ∀ id, id < s2.nx → s3.hp.get id = s2.hp.get id := fun id h => hA3.get (Nat.le_refl _) h
  have h3b : s3.hp.get s2.nx = some (.cells true 65 [.slice hvb ((HNs n es).map encQ).length hvc]) := by rw [hs3]; dsimp only; rw [T.get_put_ne _ _ _ (by omega), T.get_put_eq]; rfl
  have h3a : s3.hp.get (s2.nx + 1) = some (.cells true 70 [.func (.func 32) #[vL all most wo] #[]]) := by rw [hs3]; exact T.get_put_eq _ _ _
  clear hs3
  have h3low : ∀ id, id < w0.nx → s3.hp.get id = w0.hp.get id := fun id h => (h3o id (by omega)).trans (hA12.get (Nat.le_refl _) h)
  have hbig : w0.nx ≤ s2.nx := hA12.nx
  have hown3 : Own s3 60 1 oh (.slice hvb ((HNs n es).map encQ).length hvc) ((HNs n es).map encQ) := hown2.same (by omega) fun id h => h3o id (hown2.lt h)
  have hoh : ∀ id, oh = some id → id < s2.nx := fun id h => hown2.lt h
  refine opt_of rfl ?_
  repeat (first
  | with_reducible first | refine st (by constructor) ?_ | apply c_region
  | (with_reducible apply k_block_on
     · decide)
  | ((with_reducible first | apply xOp | apply xDr | apply xIf); rfl; (simp only [Nat.reduceEqDiff, Nat.reduceAdd, ↓reduceIte, xBB, stG, undef, opA, val, opdA, opdO, plainN, omap, binA, intBinA, loadV, readA, storeV, writeA, fieldAddrA, indexAddrA, lenA, builtinA, newA, unA, packA, Value.cells]; rfl); first | rfl | exact ⟨rfl, rfl, rfl⟩))
  refine c_range (g := 56) (fi := []) (ca := [.pointer (some ⟨s2.nx, 0, none⟩), .pointer (some ⟨s2.nx + 1, 0, none⟩)]) (by simp only [Nat.reduceEqDiff, opdA, T.get_put, ↓reduceIte]) fun L hL1 hL2 hL3 hL4 hL5 hL6 hL7 => ?_
  have hf4 : L.fr.get 4 = some (.pointer (some ⟨s.nx + 2, 0, none⟩)) := by rw [hL1]; simp only [Nat.reduceEqDiff, T.get_put, ↓reduceIte]
  have hf5 : L.fr.get 5 = some (.pointer (some ⟨s.nx + 3, 0, none⟩)) := by rw [hL1]; simp only [Nat.reduceEqDiff, T.get_put, ↓reduceIte]
  have hf6 : L.fr.get 6 = some (.pointer (some ⟨s.nx + 4, 0, none⟩)) := by rw [hL1]; simp only [Nat.reduceEqDiff, T.get_put, ↓reduceIte]
  have hc1 : ∀ x : Value, cutL [x] 0 1 = some [x] := fun _ => rfl
  have hp1 : ∀ x y : Value, putL [x] 0 [y] = [y] := fun _ _ => rfl
  have C : Cons Tryd.prog s.nx s3.nx (fun a => .int .u64 a) (fun x => Gn (HNs n es) (allowB all most wo) x ∧ allowB all most wo x = true ∧ x ≠ 0) (J29 s.nx L s3.nx (s.nx + 2) (s.nx + 3) (s.nx + 4)) (Stop29 s3.nx (s.nx + 2) (s.nx + 3)) := by
    refine ⟨fun {ys Cs t x} hx hxn hJ => ?_, fun {ys Cs t t'} hJ hn hg => ?_, fun {ys Cs t id} hJ hid => ?_, fun {ys Cs t} hJ => ?_⟩
    · obtain ⟨o, v, rfl, j1, j2, j3, j4, j5, j6, j7, j8, j9, j10, j11⟩ := hJ
      refine wpRound_of (P := Tryd.prog) (L := L) (fr := L.fr.put 13 (some (.int .u64 x))) (by omega) j1 hL2 hL4 hL5 (by rw [hL3]; rfl) (by rw [hL3, hL2]; rfl) ?_
      repeat (first
  | with_reducible first | refine st (by constructor) ?_ | apply c_region
  | (with_reducible apply k_block_on
     · decide)
  | ((with_reducible first | apply xOp | apply xDr | apply xIf); rfl; (simp only [Nat.reduceEqDiff, Nat.reduceAdd, ↓reduceIte, xBB, stG, undef, opA, val, opdA, opdO, plainN, omap, binA, intBinA, loadV, readA, storeV, writeA, fieldAddrA, indexAddrA, lenA, builtinA, newA, unA, packA, Value.cells]; rfl); first | rfl | exact ⟨rfl, rfl, rfl⟩))
      refine ⟨rfl, L, j1, hL6, ?_⟩
      generalize ht1 : ({ hp := t.hp.put s3.nx (some (.loop (lpBusy L))), nx := t.nx } : HS) = t1
      have h1n : t1.nx = t.nx := by rw [← ht1]
      have h1o : ∀ id, id ≠ s3.nx → t1.hp.get id = t.hp.get id := fun id h => by rw [← ht1]; exact T.get_put_ne _ _ _ h
      have h1l : t1.hp.get s3.nx = some (.loop (lpBusy L)) := by rw [← ht1]; exact T.get_put_eq _ _ _
      have j2' := (h1o (s.nx + 4) (by omega)).trans j2
      have j3' := (h1o (s.nx + 2) (by omega)).trans j3
      have j4' := (h1o (s.nx + 3) (by omega)).trans j4
      have j5' : Own t1 60 1 o v (ys.map encQ) := j5.same (by omega) fun id h => h1o id (j6 id h).2.1
      obtain ⟨vb, vc, rfl⟩ := j5'.shape
      have hyl : (ys.map encQ).length = ys.length := List.length_map _
      by_cases hfull : ys.length = 1024
      · have e1 : ((ys.length : Int) == 1024) = true := by rw [hfull]; rfl
        have l2 : s.nx ≤ s.nx + 2 := by omega
        have l3 : s.nx ≤ s.nx + 3 := by omega
        have hone : ∀ x : Value, Value.oneCell' x = true → ([x] : List Value).all Value.oneCell' = true := fun x h => by simp [h]
        repeat (first
  | with_reducible first | refine st (by constructor) ?_
  | (with_reducible apply k_block_on
     · decide)
  | ((with_reducible first | apply xOp | apply xDr | apply xIf); rfl; (simp only [Nat.reduceEqDiff, Nat.reduceAdd, ↓reduceIte, xBB, stG, undef, opA, val, opdA, opdO, plainN, omap, binA, intBinA, loadV, readA, storeV, writeA, fieldAddrA, indexAddrA, lenA, builtinA, newA, unA, packA, Value.cells]; rfl); first | rfl | exact ⟨rfl, rfl, rfl⟩))
        refine c_region ?_
        repeat (first
  | with_reducible first | refine st (by constructor) ?_
  | (with_reducible apply k_block_on
     · decide)
  | ((with_reducible first | apply xOp | apply xDr | apply xIf); rfl; (simp only [Nat.reduceEqDiff, Nat.reduceAdd, ↓reduceIte, xBB, stG, undef, opA, val, opdA, opdO, plainN, omap, binA, intBinA, loadV, readA, storeV, writeA, fieldAddrA, indexAddrA, lenA, builtinA, newA, unA, packA, Value.cells, hf6, j2', ty65, hc1, un65, hyl, e1]; rfl); first | rfl | exact ⟨rfl, rfl, rfl⟩))
        refine c_region ?_
        have hne23 : ¬ (s.nx + 3 = s.nx + 2) := by omega
        have o1 : ([Value.slice none 0 0] : List Value).all Value.oneCell' = true := rfl
        have o2 : ([Value.int .i64 6] : List Value).all Value.oneCell' = true := rfl
        repeat (first
  | with_reducible first | refine st (by constructor) ?_
  | (with_reducible apply k_block_on
     · decide)
  | ((with_reducible first | apply xOp | apply xDr | apply xIf); rfl; (simp only [Nat.reduceEqDiff, Nat.reduceAdd, ↓reduceIte, xBB, stG, undef, opA, val, opdA, opdO, plainN, omap, binA, intBinA, loadV, readA, storeV, writeA, fieldAddrA, indexAddrA, lenA, builtinA, newA, unA, packA, Value.cells, hf4, hf5, sz65, sz32, j3', j4', o1, o2, hp1, List.toList_toArray, hne23]; rfl); first | rfl | exact ⟨rfl, rfl, rfl⟩))
        refine ⟨lpBusy L, ?_, Or.inr ⟨rfl, ?_⟩⟩
        · dsimp only; rw [T.get_put_ne _ _ _ (by omega), T.get_put_ne _ _ _ (by omega)]; exact h1l
        · refine ⟨by simp [hfull], ⟨_, T.get_put_eq _ _ _, rfl, rfl⟩, ?_, ?_⟩
          · dsimp only; rw [T.get_put_ne _ _ _ (by omega), T.get_put_ne _ _ _ (by omega), T.get_put_eq]
          · dsimp only; rw [T.get_put_ne _ _ _ (by omega), T.get_put_eq]
      · have e1 : ((ys.length : Int) == 1024) = false := by simp; omega
        repeat (first
  | with_reducible first | refine st (by constructor) ?_ | apply c_region
  | (with_reducible apply k_block_on
     · decide)
  | ((with_reducible first | apply xOp | apply xDr | apply xIf); rfl; (simp only [Nat.reduceEqDiff, Nat.reduceAdd, ↓reduceIte, xBB, stG, undef, opA, val, opdA, opdO, plainN, omap, binA, intBinA, loadV, readA, storeV, writeA, fieldAddrA, indexAddrA, lenA, builtinA, newA, unA, packA, Value.cells, hf6, j2', ty65, hc1, un65, hyl, e1, buildSliceA, el65, sz60, zr60, zerosL, fillA]; rfl); first | rfl | exact ⟨rfl, rfl, rfl⟩))
        ((with_reducible first | apply ops_opt | apply xPd); (first | rfl | exact ⟨rfl, rfl⟩); (simp only [Nat.reduceEqDiff, Nat.reduceAdd, ↓reduceIte, xBB, opA, val, opdA, opdO, plainN, omap, binA, intBinA, loadV, readA, storeV, writeA, fieldAddrA, indexAddrA, lenA, builtinA, newA, unA, packA, Value.cells, un65]; rfl))
        generalize hw6 : ({ hp := t1.hp.put t1.nx (some (.cells true 60 (putL ([.int .u64 0] ++ []) (0 * 1) [.int .u64 x]))), nx := t1.nx + 1 } : HS) = t2
        have h2n' : t2.nx = t1.nx + 1 := by rw [← hw6]
        have h2o : ∀ id, id < t1.nx → t2.hp.get id = t1.hp.get id := fun id h => by rw [← hw6]; exact T.get_put_ne _ _ _ (by omega)
        have h2y : t2.hp.get t1.nx = some (.cells true 60 [.int .u64 x]) := by rw [← hw6]; exact T.get_put_eq _ _ _
        have hq2 : Own t2 60 1 o (.slice vb ys.length vc) (ys.map encQ) := by rw [← hyl]; exact j5'.same (by omega) fun id ho => h2o id (j5'.lt ho)
        refine opt_ex (app_one (lk := s.nx) (y := [.int .u64 x]) el65 sz60 by60 zr60 rfl (by decide) hq2 (fun id ho => (j6 id ho).1) h2y rfl rfl (by simp; omega)) fun q hq => ?_
        obtain ⟨qv, t3⟩ := q
        obtain ⟨p1, p2, o', p3, p4⟩ := hq
        dsimp only at p1 p2 p3
        have hov : ∀ id, id < t.nx → o ≠ some id → t3.hp.get id = t1.hp.get id := fun id h1 h2 => (p2 id (by omega) h2).trans (h2o id (by omega))
        have hnot : ∀ id, (id = s3.nx ∨ id = s.nx + 4 ∨ id = s.nx + 2 ∨ id = s.nx + 3) → o ≠ some id := fun id h ho => by
          obtain ⟨_, a, b, c, d⟩ := j6 id ho
          omega
        have k2 := (hov (s.nx + 4) (by omega) (hnot _ (by omega))).trans j2'
        obtain ⟨qb, qc, hqs⟩ := p3.shape
        have o1 : ([qv] : List Value).all Value.oneCell' = true := by rw [hqs]; rfl
        have hqc : qv.cells = #[qv] := by rw [hqs]; rfl
        have hlo : s.nx ≤ s.nx + 4 := by omega
        subst hqs
        refine opt_of rfl ?_
        repeat (first
  | with_reducible first | refine st (by constructor) ?_ | apply c_region
  | (with_reducible apply k_block_on
     · decide)
  | ((with_reducible first | apply xOp | apply xDr | apply xIf); rfl; (simp only [Nat.reduceEqDiff, Nat.reduceAdd, ↓reduceIte, xBB, stG, undef, opA, val, opdA, opdO, plainN, omap, binA, intBinA, loadV, readA, storeV, writeA, fieldAddrA, indexAddrA, lenA, builtinA, newA, unA, packA, Value.cells, hf6, sz65, k2, hlo, o1, hp1, List.toList_toArray]; rfl); first | rfl | exact ⟨rfl, rfl, rfl⟩))
        refine ⟨lpBusy L, ?_, Or.inl ⟨rfl, fun id => id = s3.nx ∨ id = s.nx + 4 ∨ id = s.nx + 2 ∨ id = s.nx + 3 ∨ o' = some id, ?_, ?_, ?_, ?_⟩⟩
        · dsimp only; rw [T.get_put_ne _ _ _ (by omega)]; exact (hov _ (by omega) (hnot _ (by omega))).trans h1l
        · have hnew : ∀ id, o' = some id → s.nx ≤ id ∧ id ≠ s3.nx ∧ id ≠ s.nx + 4 ∧ id ≠ s.nx + 2 ∧ id ≠ s.nx + 3 := fun id ho => by
            rcases p4 with rfl | rfl
            · exact j6 id ho
            · cases ho; omega
          refine ⟨o', .slice qb (ys.map encQ ++ [[Value.int .u64 (x : Int)]]).length qc, rfl, ?_, ?_, ?_, ?_, ?_, hnew, ?_, ?_, ?_, ?_, ?_⟩
          · dsimp only; rw [T.get_put_eq, loop_back hL6 hL7]
          · dsimp only; rw [T.get_put_ne _ _ _ (by omega), T.get_put_eq]
          · dsimp only; rw [T.get_put_ne _ _ _ (by omega), T.get_put_ne _ _ _ (by omega)]; exact (hov _ (by omega) (hnot _ (by omega))).trans j3'
          · dsimp only; rw [T.get_put_ne _ _ _ (by omega), T.get_put_ne _ _ _ (by omega)]; exact (hov _ (by omega) (hnot _ (by omega))).trans j4'
          · rw [List.map_append]
            refine p3.same (Nat.le_refl _) fun id ho => ?_
            obtain ⟨_, a, b, _, _⟩ := hnew id ho
            dsimp only; rw [T.get_put_ne _ _ _ a, T.get_put_ne _ _ _ b]
          · simp; omega
          · show s3.nx < t3.nx; omega
          · show s.nx + 4 < t3.nx; omega
          · show s.nx + 2 < t3.nx; omega
          · show s.nx + 3 < t3.nx; omega
        · show t.nx ≤ t3.nx; omega
        · intro id h
          rcases h with h | h | h | h | h
          · exact Or.inl (Or.inl h)
          · exact Or.inl (Or.inr (Or.inl h))
          · exact Or.inl (Or.inr (Or.inr (Or.inl h)))
          · exact Or.inl (Or.inr (Or.inr (Or.inr (Or.inl h))))
          · rcases p4 with rfl | rfl
            · exact Or.inl (Or.inr (Or.inr (Or.inr (Or.inr h))))
            · cases h; exact Or.inr (by omega)
        · intro id h1 h2
          dsimp only
          rw [T.get_put_ne _ _ _ (fun e => h2 (Or.inl e)), T.get_put_ne _ _ _ (fun e => h2 (Or.inr (Or.inl e))), hov id h1 (fun e => h2 (Or.inr (Or.inr (Or.inr (Or.inr e)))))]
          exact h1o id fun e => h2 (Or.inl e)
    · obtain ⟨o, v, rfl, j1, j2, j3, j4, j5, j6, j7, j8, j9, j10, j11⟩ := hJ
      exact ⟨o, v, rfl, (hg _ (Or.inl rfl)).trans j1, (hg _ (Or.inr (Or.inl rfl))).trans j2, (hg _ (Or.inr (Or.inr (Or.inl rfl)))).trans j3, (hg _ (Or.inr (Or.inr (Or.inr (Or.inl rfl))))).trans j4, j5.same hn fun id h => hg id (Or.inr (Or.inr (Or.inr (Or.inr h)))), j6, j7, by omega, by omega, by omega, by omega⟩
    · obtain ⟨o, v, rfl, j1, j2, j3, j4, j5, j6, j7, j8, j9, j10, j11⟩ := hJ
      rcases hid with h | h | h | h | h
      · omega
      · omega
      · omega
      · omega
      · exact j5.lt h
    · obtain ⟨o, v, rfl, j1, j2, j3, j4, j5, j6, j7, _⟩ := hJ
      omega
  generalize hs4 : ({ hp := s3.hp.put s3.nx (some (.loop L)), nx := s3.nx + 1 } : HS) = s4
  have h4n : s4.nx = s3.nx + 1 := by rw [← hs4]
  have h4o : ∀ id, id < s3.nx → s4.hp.get id = s3.hp.get id := fun id h => by rw [← hs4]; exact T.get_put_ne _ _ _ (by omega)
  have h4l : s4.hp.get s3.nx = some (.loop L) := by rw [← hs4]; exact T.get_put_eq _ _ _
  have h4low : ∀ id, id < w0.nx → s4.hp.get id = w0.hp.get id := fun id h => (h4o id (by omega)).trans (h3low id h)
  have hJ0 : J29 s.nx L s3.nx (s.nx + 2) (s.nx + 3) (s.nx + 4) [] (fun id => id = s3.nx ∨ id = s.nx + 4 ∨ id = s.nx + 2 ∨ id = s.nx + 3 ∨ (none : Option Nat) = some id) s4 :=
    ⟨none, .slice none 0 0, rfl, h4l, (h4low _ (by omega)).trans hb6, (h4low _ (by omega)).trans hb4, (h4low _ (by omega)).trans hb5, ⟨rfl, rfl⟩, fun id h => (by cases h), by simp, by omega, by omega, by omega, by omega⟩
  have hhl : (HNs n es).length ≤ 64 := by unfold HNs; simpa using hn64
  refine (f56_spec C hn64 (HNs_lt hg) hhl (allow_lim all most wo) (by omega) hJ0 ((h4o _ (by omega)).trans h3b) ((h4o _ (by omega)).trans h3a) (hown3.same (by omega) fun id h => h4o id (hown3.lt h)) (by omega) (by omega) (fun h => ?_) (fun h => ?_) (fun id ho h => ?_)).use (Nat.le_refl _) (by omega) fun v s5 hv hA5 => ?_
  · rcases h with h | h | h | h | h <;> first | omega | cases h
  · rcases h with h | h | h | h | h <;> first | omega | cases h
  · have h5 := hoh id ho
    subst ho
    obtain ⟨cs, h6⟩ := own_get hown3
    rcases h with rfl | rfl | rfl | rfl | h
    · omega
    · rw [h3low _ (by omega), hb6] at h6; cases h6
    · rw [h3low _ (by omega), hb4] at h6; cases h6
    · rw [h3low _ (by omega), hb5] at h6; cases h6
    · cases h
  · have hgl5 : Glob s5 := by
      have h0 := hgl.1
      have hn5 := hA5.nx
      refine ⟨by omega, ?_⟩
      rw [hA5.get (by omega) (by omega), h4low 0 (by omega), hwo 0 h0]; exact hgl.2
    rcases hv with ⟨ys, Cs', hF, hall, hJ⟩ | ⟨ys, hF, hlen, ⟨L2, j1, j2, j3⟩, j4, j5⟩
    · obtain ⟨o, lv, rfl, j1, j2, j3, j4, j5, j6, j7, j8, j9, j10, j11⟩ := hJ
      refine opt_of (rf_normal j1 hL6 hL7) ?_
      generalize hs6 : ({ s5 with hp := s5.hp.put s3.nx none } : HS) = s6
      have h6n : s6.nx = s5.nx := by rw [← hs6]
      have h6o : ∀ id, id ≠ s3.nx → s6.hp.get id = s5.hp.get id := fun id h => by rw [← hs6]; exact T.get_put_ne _ _ _ h
      have hgl6 : Glob s6 := ⟨by have := hgl5.1; omega, by rw [h6o 0 (by have := hgl.1; omega)]; exact hgl5.2⟩
      have hown6 : Own s6 60 1 o lv (ys.map encQ) := j5.same (by omega) fun id h => h6o id (j6 id h).2.1
      have k2 := (h6o (s.nx + 4) (by omega)).trans j2
      have k3 := (h6o (s.nx + 2) (by omega)).trans j3
      have k4 := (h6o (s.nx + 3) (by omega)).trans j4
      obtain ⟨s7, h71, h72, h73, h74⟩ := sort_own (lk := s.nx) hown6 (fun y hy => Nat.lt_of_lt_of_le (((hF.2 y hy).1).lt (HNs_lt hg)) h64) (fun id ho => ⟨(j6 id ho).1, by have := (j6 id ho).1; have := hgl.1; omega⟩) hgl6 (by omega)
      have hnot : ∀ id, (id = s.nx + 4 ∨ id = s.nx + 2 ∨ id = s.nx + 3) → o ≠ some id := fun id h ho => by
        obtain ⟨_, a, b, c, d⟩ := j6 id ho
        omega
      have m2 := (h74 _ (hnot (s.nx + 4) (by omega))).trans k2
      have m3 := (h74 _ (hnot (s.nx + 2) (by omega))).trans k3
      have m4 := (h74 _ (hnot (s.nx + 3) (by omega))).trans k4
      obtain ⟨lb, lc, rfl⟩ := hown6.shape
      have o1 : ([Value.slice lb (ys.map encQ).length lc] : List Value).all Value.oneCell' = true := rfl
      have o2 : ([Value.int .i64 0] : List Value).all Value.oneCell' = true := rfl
      have l2 : s.nx ≤ s.nx + 2 := by omega
      have l3 : s.nx ≤ s.nx + 3 := by omega
      have hne23 : ¬ (s.nx + 3 = s.nx + 2) := by omega
      have hne32 : ¬ (s.nx + 2 = s.nx + 3) := by omega
      repeat (first
  | with_reducible first | refine st (by constructor) ?_ | apply c_region
  | (with_reducible apply k_block_on
     · decide)
  | ((with_reducible first | apply xOp | apply xDr | apply xIf); rfl; (simp only [Nat.reduceEqDiff, Nat.reduceAdd, ↓reduceIte, xBB, stG, undef, opA, val, opdA, opdO, plainN, omap, binA, intBinA, loadV, readA, storeV, writeA, fieldAddrA, indexAddrA, lenA, builtinA, newA, unA, packA, Value.cells, k2, ty65, hc1]; rfl); first | rfl | exact ⟨rfl, rfl, rfl⟩))
      ((with_reducible first | apply xCa | apply xCd); rfl; (simp only [Nat.reduceEqDiff, Nat.reduceAdd, ↓reduceIte, xBB, stB, opdA, opdO, plainN, omap, val, Value.cells]; exact ⟨rfl, rfl⟩); try rfl)
      apply call_fn
      refine wpF_sort (by kernel_rfl) h71 ?_
      refine opt_of rfl ?_
      repeat (first
  | with_reducible first | refine st (by constructor) ?_ | apply c_region
  | (with_reducible apply k_block_on
     · decide)
  | ((with_reducible first | apply xOp | apply xDr | apply xIf); rfl; (simp only [Nat.reduceEqDiff, Nat.reduceAdd, ↓reduceIte, xBB, stG, undef, opA, val, opdA, opdO, plainN, omap, binA, intBinA, loadV, readA, storeV, writeA, fieldAddrA, indexAddrA, lenA, builtinA, newA, unA, packA, Value.cells, m2, ty65, hc1, sz65, sz32, m3, m4, o1, o2, hp1, List.toList_toArray, hne23]; rfl); first | rfl | exact ⟨rfl, rfl, rfl⟩))
      intro _
      ((with_reducible first | apply ret_i | apply ret_n); (simp only [Nat.reduceEqDiff, Nat.reduceAdd, ↓reduceIte, xBB, resA, opdA, opdO, plainN, omap, val, loadV, readA, packA, ty65, ty32', hc1, m3, m4, hne23, hne32]; rfl))
      refine ⟨ys, hF, Or.inr ⟨j7, hall, o, _, rfl, ?_⟩⟩
      refine h73.same (Nat.le_refl _) fun id ho => ?_
      obtain ⟨_, _, _, c, d⟩ := j6 id ho
      dsimp only
      rw [T.get_put_ne _ _ _ d, T.get_put_ne _ _ _ c]
    · refine opt_of (rf_ret j1 j2 j3) ?_
      have hne1 : s.nx + 2 ≠ s3.nx := by omega
      have hne2 : s.nx + 3 ≠ s3.nx := by omega
      generalize hs6 : ({ s5 with hp := s5.hp.put s3.nx none } : HS) = s6
      have k4 : s6.hp.get (s.nx + 2) = some (.cells true 65 [.slice none 0 0]) := by rw [← hs6]; exact (T.get_put_ne _ _ _ hne1).trans j4
      have k5 : s6.hp.get (s.nx + 3) = some (.cells true 32 [.int .i64 6]) := by rw [← hs6]; exact (T.get_put_ne _ _ _ hne2).trans j5
      repeat (first
  | with_reducible first | refine st (by constructor) ?_ | apply c_region
  | (with_reducible apply k_block_on
     · decide)
  | ((with_reducible first | apply xOp | apply xDr | apply xIf); rfl; (simp only [Nat.reduceEqDiff, Nat.reduceAdd, ↓reduceIte, xBB, stG, undef, opA, val, opdA, opdO, plainN, omap, binA, intBinA, loadV, readA, storeV, writeA, fieldAddrA, indexAddrA, lenA, builtinA, newA, unA, packA, Value.cells]; rfl); first | rfl | exact ⟨rfl, rfl, rfl⟩))
      intro _
      ((with_reducible first | apply ret_i | apply ret_n); (simp only [Nat.reduceEqDiff, Nat.reduceAdd, ↓reduceIte, xBB, resA, opdA, opdO, plainN, omap, val, loadV, readA, packA, ty65, ty32', hc1, k4, k5]; rfl))
      exact ⟨ys, hF, Or.inl ⟨hlen, rfl⟩⟩
end Go.Ev
