/- A region that draws its order, IV: the whole of it. -/
import Derived.Test.YthedojfbofcefaaDoorEvDraw3
namespace Go.Ev
open Go
variable {P : Program} {R : Rec} {φ : Inj} {sz lk B : Nat} {ro : Option Nat}

structure Inv (P : Program) (ops : Array Oper) (sz lk : Nat) (F : Nat → Fr) (S : Nat → HS) (V : Nat → Value) (φ : Inj) (w0 : World) (df : List Deferred) (E : Nat → Bool) (φ' : Inj) (a : Act) (w : World) : Prop where
  dn : Dn ops E
  ext : Sub φ φ'
  out : ∀ id, id < (S 0).nx ∨ (S ops.size).nx ≤ id → φ' id = φ id
  used : ∀ id, (S 0).nx ≤ id → id < (S ops.size).nx → φ' id ≠ none → E (own (NX S) id ops.size) = true
  rel : HRF P φ' (hS ops S E) (S ops.size).nx w
  live : ∀ id, id < (S 0).nx → hS ops S E id ≠ none → (S 0).hp.get id ≠ none
  livw : ∀ id, id < (S 0).nx → Wr (hS ops S E) id → Wr (S 0).hp.get id
  keep : ∀ id L, (S 0).hp.get id = some (.loop L) → ∃ L', hS ops S E id = some (.loop L')
  os : w.os = w0.os
  tape : w.tape = w0.tape
  output : w.output = w0.output
  size : w0.heap.size ≤ w.heap.size
  frame : ∀ r, r < w0.heap.size → (∀ id im, lk ≤ id → Wr (S 0).hp.get id → φ id = some im → im.blk ≠ r) → w.heap[r]? = w0.heap[r]?
  news : ∀ id im, (S 0).nx ≤ id → hS ops S E id ≠ none → φ' id = some im → w0.heap.size ≤ im.blk ∨ ∃ i0 m0, lk ≤ i0 ∧ Wr (S 0).hp.get i0 ∧ φ i0 = some m0 ∧ m0.blk = im.blk
  frm : FrR φ' sz (wrT (F 0) ops V E ops.size) a.tmps
  dfs : a.defers = df

section
variable {ops : Array Oper} {F : Nat → Fr} {S : Nat → HS} {M : Nat → List (Nat × Nat × Nat)} {V : Nat → Value} {E : Nat → Bool} {i : Nat} {w0 : World} {df : List Deferred} {φ' : Inj} {a : Act} {w : World}

theorem HRF.sub {P : Program} {φ : Inj} {h g : Nat → Option AObj} {n m : Nat} {w : World} (H : HRF P φ h n w) (hs : ∀ id o, g id = some o → id < m ∧ h id = some o) (hm : P.globals.size ≤ m) : HRF P φ g m w where
  obj := fun id o e => H.obj id o (hs id o e).2
  inj := fun i j oi oj mi mj a b => H.inj i j oi oj mi mj (hs i oi a).2 (hs j oj b).2
  bnd := fun id o e => (hs id o e).1
  glob := H.glob
  nxg := hm

/-- What is hidden from a step is as it was. -/
theorem Post.unhide {P : Program} {φ φ2 : Inj} {lk : Nat} {s s1 : HS} {w w2 : World} {bad : List (Nat × Nat)} (p : Post P φ lk (hid s bad) w φ2 s1 w2) (H : HR P φ s w) (hb : ∀ id, Go.Ev.inBad bad id = true → id < s.nx) :
    Post P φ lk s w φ2 (unh s s1 bad) w2 := by
  have pn := p.nx
  rw [hid_nx] at pn
  have outs : ∀ id, id < s.nx → φ2 id = φ id := fun id h => p.out id (by rw [hid_nx]; exact Or.inl h)
  have hide : ∀ id, Go.Ev.inBad bad id = true → (hid s bad).hp.get id = none := fun id h => by rw [hid_get, if_pos h]
  have shown : ∀ id, (hid s bad).hp.get id ≠ none → s.hp.get id ≠ none ∧ ¬ Go.Ev.inBad bad id = true := fun id h => by
    rw [hid_get] at h
    split at h
    · exact absurd rfl h
    · rename_i h2; exact ⟨h, h2⟩
  have shownW : ∀ id, Wr (hid s bad).hp.get id → Wr s.hp.get id ∧ ¬ Go.Ev.inBad bad id = true := fun id h => by
    have h2 := shown id h.ne
    exact ⟨h.of_eq (by rw [hid_get, if_neg h2.2]), h2.2⟩
  have still : ∀ id o im, Go.Ev.inBad bad id = true → s.hp.get id = some o → φ id = some im → w2.heap[im.blk]? = w.heap[im.blk]? := fun id o im h1 h2 h3 =>
    p.frame _ (HR.lt H h2 h3) fun i2 m2 _ g2 g3 => by
      obtain ⟨⟨o2, g4, g6⟩, g5⟩ := shownW i2 g2
      exact H.inj i2 id o2 o m2 im g4 h2 g3 h3 (fun e => g5 (by rw [e]; exact h1)) (Or.inl g6)
  have mixed : ∀ x y ox oy mx my, Go.Ev.inBad bad x = true → ¬ Go.Ev.inBad bad y = true → s.hp.get x = some ox → s1.hp.get y = some oy → φ2 x = some mx → φ2 y = some my → (wrO ox = true ∨ wrO oy = true) → mx.blk ≠ my.blk := fun x y ox oy mx my bx nby hx hy h3 h4 hwr => by
    rw [outs x (hb x bx)] at h3
    have hlt := HR.lt H hx h3
    rcases Nat.lt_or_ge y s.nx with hyn | hyn
    · have h5 := (shown y (p.live y (by rw [hid_nx]; exact hyn) (by rw [hy]; simp))).1
      obtain ⟨oy', hy'⟩ := Option.ne_none_iff_exists'.1 h5
      rw [outs y hyn] at h4
      refine H.inj x y ox oy' mx my hx hy' h3 h4 (fun e => nby (by rw [← e]; exact bx)) ?_
      rcases hwr with h | h
      · exact Or.inl h
      · obtain ⟨⟨o3, g4, g6⟩, _⟩ := shownW y (p.livw y (by rw [hid_nx]; exact hyn) ⟨oy, hy, h⟩)
        rw [hy'] at g4; cases g4; exact Or.inr g6
    · rcases p.news y my (by rw [hid_nx]; exact hyn) (by rw [hy]; simp) h4 with h5 | ⟨i0, m0, a1, b1, c1, d1⟩
      · omega
      · rw [← d1]
        obtain ⟨⟨o3, g4, g6⟩, g5⟩ := shownW i0 b1
        exact H.inj x i0 ox o3 mx m0 hx g4 h3 c1 (fun e => g5 (by rw [← e]; exact bx)) (Or.inr g6)
  refine ⟨p.ext, fun id h => p.out id (by rw [hid_nx]; rw [unh_nx] at h; exact h), ⟨fun id o h => ?_, fun x y ox oy mx my hx hy h3 h4 hne hwr => ?_, fun id o h => ?_, fun g hg => p.rel.glob g hg, by rw [unh_nx]; exact p.rel.nxg⟩,
    by rw [unh_nx]; exact pn, fun id h1 h2 => ?_, fun id h1 h2 => ?_, fun id h => ?_, fun id L h => ?_, p.os, p.tape, p.output, p.size, fun r hr hno => ?_, fun id im h1 h2 h3 => ?_⟩
  · rw [unh_get] at h
    split at h
    · rename_i hbad
      obtain ⟨im, h1, h2⟩ := H.obj id o h
      exact ⟨im, p.ext _ _ h1, by rw [still id o im hbad h h1]; exact h2.mono p.ext⟩
    · exact p.rel.obj id o h
  · rw [unh_get] at hx hy
    split at hx
    · rename_i bx
      split at hy
      · rename_i b_y
        rw [outs x (hb x bx)] at h3
        rw [outs y (hb y b_y)] at h4
        exact H.inj x y ox oy mx my hx hy h3 h4 hne hwr
      · rename_i nby
        exact mixed x y ox oy mx my bx nby hx hy h3 h4 hwr
    · rename_i nbx
      split at hy
      · rename_i b_y
        exact (mixed y x oy ox my mx b_y nbx hy hx h4 h3 hwr.symm).symm
      · exact p.rel.inj x y ox oy mx my hx hy h3 h4 hne hwr
  · rw [unh_nx]
    rw [unh_get] at h
    split at h
    · rename_i hbad; have := hb id hbad; omega
    · exact p.rel.bnd id o h
  · rw [unh_get] at h2
    split at h2
    · exact h2
    · exact (shown id (p.live id (by rw [hid_nx]; exact h1) h2)).1
  · by_cases hbad : Go.Ev.inBad bad id = true
    · exact h2.of_eq (by rw [unh_get, if_pos hbad])
    · exact (shownW id (p.livw id (by rw [hid_nx]; exact h1) (h2.of_eq (by rw [unh_get, if_neg hbad])))).1
  · rw [unh_get]
    split
    · rfl
    · rename_i nb; rw [p.lock id h, hid_get, if_neg nb]
  · rw [unh_get]
    split
    · exact ⟨L, h⟩
    · rename_i nb; exact p.keep id L (by rw [hid_get, if_neg nb]; exact h)
  · exact p.frame r hr fun id im h1 h2 h3 => hno id im h1 (shownW id h2).1 h3
  · rw [unh_get] at h2
    split at h2
    · rename_i hbad; have := hb id hbad; omega
    · rcases p.news id im (by rw [hid_nx]; exact h1) h2 h3 with h5 | ⟨i0, m0, a1, b1, c1, d1⟩
      · exact Or.inl h5
      · exact Or.inr ⟨i0, m0, a1, (shownW i0 b1).1, c1, d1⟩

theorem Dn.more (hE : Dn ops E) (hi : i < ops.size) (hrd : ∀ j, bits ops i j = true → E j = true) : Dn ops (E1 E i) := by
  intro k j hk h1 h2
  unfold E1 at *
  simp only [Bool.or_eq_true, decide_eq_true_eq] at h1 ⊢
  rcases h1 with h1 | rfl
  · exact Or.inl (hE k j hk h1 h2)
  · exact Or.inl (hrd j h2)

theorem Inv.usedN (I : Inv P ops sz lk F S V φ w0 df E φ' a w) (d : DC P R lk sz ops F S M V) (hi : i < ops.size) (hi' : E i = false) : Fresh φ' (S i).nx (S (i + 1)).nx := by
  intro id h1 h2
  cases hp : φ' id with
  | none => rfl
  | some im =>
    have h0 := d.mono (j := 0) (k := i) (Nat.zero_le _) (by omega)
    have hn := d.mono (j := i + 1) (k := ops.size) (by omega) (Nat.le_refl _)
    have := I.used id (by omega) (by omega) (by rw [hp]; simp)
    rw [d.ownK hi h1 h2, hi'] at this; cases this

theorem Inv.side (I : Inv P ops sz lk F S V φ w0 df E φ' a w) (d : DC P R lk sz ops F S M V) (hi : i < ops.size) (hi' : E i = false) (hrd : ∀ j, bits ops i j = true → E j = true) (hb : lbar ops i = false)
    {s0 s1 : HS} {φ2 : Inj} {a2 : Act} {w2 : World} (e0 : s0.nx = (S i).nx) (e1 : s1.nx = (S (i + 1)).nx) (h0 : ∀ id, s0.hp.get id ≠ none → id < (S i).nx)
    (hnew : ∀ id, (S i).nx ≤ id → (S (i + 1)).hp.get id = s1.hp.get id) (p : Post P φ' (S i).nx s0 w φ2 s1 w2) (hf : FrR φ2 sz (wrT (F 0) ops V (E1 E i) ops.size) a2.tmps) (hd : a2.defers = a.defers) :
    Inv P ops sz lk F S V φ w0 df (E1 E i) φ2 a2 w2 := by
  have side := hS_side d I.dn hi hi' hb
  have m0i := d.mono (j := 0) (k := i) (Nat.zero_le _) (by omega)
  have min := d.mono (j := i + 1) (k := ops.size) (by omega) (Nat.le_refl _)
  have mii := d.mono (j := i) (k := i + 1) (by omega) (by omega)
  have still : ∀ r, r < w.heap.size → w2.heap[r]? = w.heap[r]? := fun r hr => p.frame r hr fun id im h1 h2 _ => by have := h0 id h2.ne; omega
  have fresh := I.usedN d hi hi'
  have outs : ∀ id, ¬ ((S i).nx ≤ id ∧ id < (S (i + 1)).nx) → φ2 id = φ' id := fun id h => p.out id (by rw [e0, e1]; omega)
  have newb : ∀ id im, (S i).nx ≤ id → s1.hp.get id ≠ none → φ2 id = some im → w.heap.size ≤ im.blk := fun id im h1 h2 h3 => by
    rcases p.news id im (by rw [e0]; exact h1) h2 h3 with h | ⟨i0, m0, a1, b1, _⟩
    · exact h
    · have := h0 i0 b1.ne; omega
  have old : ∀ id o im, hS ops S E id = some o → φ' id = some im → im.blk < w.heap.size := fun id o im h1 h2 => by
    obtain ⟨im', h3, h4⟩ := I.rel.obj id o h1
    rw [h2] at h3; cases h3
    have : ∃ x, w.heap[im.blk]? = some x := by
      cases o with
      | cells wr e cs => obtain ⟨_, c, fz, h1, _⟩ := h4; exact ⟨_, h1⟩
      | map es => obtain ⟨es', clock, h1, _⟩ := h4; exact ⟨_, h1⟩
      | loop L => obtain ⟨r, h1, _⟩ := h4; exact ⟨_, h1⟩
    obtain ⟨x, hx⟩ := this
    exact (Array.getElem?_eq_some_iff.1 hx).1
  refine ⟨I.dn.more hi hrd, I.ext.trans p.ext, fun id h => ?_, fun id h1 h2 h3 => ?_, ⟨fun id o h => ?_, fun x y ox oy mx my hx hy hmx hmy hne hwr => ?_, fun id o h => hS_lt d (E := E1 E i) (by rw [h]; simp), fun g hg => ?_, I.rel.nxg⟩,
    fun id h1 h2 => ?_, fun id h1 h2 => ?_, fun id L h => ?_, p.os.trans I.os, p.tape.trans I.tape, p.output.trans I.output, Nat.le_trans I.size p.size, fun r hr hno => ?_, fun id im h1 h2 h3 => ?_, hf, hd.trans I.dfs⟩
  · rw [outs id (by omega)]; exact I.out id h
  · by_cases hc : (S i).nx ≤ id ∧ id < (S (i + 1)).nx
    · rw [d.ownK hi hc.1 hc.2]; simp [E1]
    · rw [outs id hc] at h3
      have := I.used id h1 h2 h3
      simp [E1, this]
  · rw [side] at h
    split at h
    · rename_i hc
      rw [hnew id hc.1] at h
      exact p.rel.obj id o h
    · obtain ⟨im, h1, h2⟩ := I.rel.obj id o h
      refine ⟨im, p.ext _ _ h1, ?_⟩
      rw [still _ (old id o im h h1)]
      exact h2.mono p.ext
  · rw [side] at hx hy
    split at hx
    · rename_i cx
      rw [hnew x cx.1] at hx
      split at hy
      · rename_i cy
        rw [hnew y cy.1] at hy
        exact p.rel.inj x y ox oy mx my hx hy hmx hmy hne hwr
      · rename_i cy
        rw [outs y cy] at hmy
        have := old y oy my hy hmy
        have := newb x mx cx.1 (by rw [hx]; simp) hmx
        omega
    · rename_i cx
      rw [outs x cx] at hmx
      split at hy
      · rename_i cy
        rw [hnew y cy.1] at hy
        have := old x ox mx hx hmx
        have := newb y my cy.1 (by rw [hy]; simp) hmy
        omega
      · rename_i cy
        rw [outs y cy] at hmy
        exact I.rel.inj x y ox oy mx my hx hy hmx hmy hne hwr
  · obtain ⟨im, h1, h2⟩ := I.rel.glob g hg
    exact ⟨im, p.ext _ _ h1, h2⟩
  · rw [side, if_neg (by omega)] at h2; exact I.live id h1 h2
  · exact I.livw id h1 (h2.of_eq (by rw [side, if_neg (by omega)]))
  · obtain ⟨L', h'⟩ := I.keep id L h
    have hid := d.b0 id (by rw [h]; simp)
    refine ⟨L', ?_⟩
    rw [side, if_neg (by omega)]; exact h'
  · rw [still r (by have := I.size; omega)]; exact I.frame r hr hno
  · rw [side] at h2
    split at h2
    · rename_i hc
      rw [hnew id hc.1] at h2
      have := newb id im hc.1 h2 h3
      exact Or.inl (Nat.le_trans I.size this)
    · rename_i hc
      rw [outs id hc] at h3
      exact I.news id im h1 h2 h3

theorem Inv.bar (I : Inv P ops sz lk F S V φ w0 df E φ' a w) (d : DC P R lk sz ops F S M V) (hi : i < ops.size) (hrd : ∀ j, bits ops i j = true → E j = true)
    {s0 s1 : HS} {φ2 : Inj} {a2 : Act} {w2 : World} (e0 : s0.nx = (S i).nx) (e1 : s1.nx = (S (i + 1)).nx) (g0 : ∀ id, s0.hp.get id = hS ops S E id) (g1 : ∀ id, s1.hp.get id = hS ops S (E1 E i) id)
    (p : Post P φ' lk s0 w φ2 s1 w2) (hf : FrR φ2 sz (wrT (F 0) ops V (E1 E i) ops.size) a2.tmps) (hd : a2.defers = a.defers) :
    Inv P ops sz lk F S V φ w0 df (E1 E i) φ2 a2 w2 := by
  have m0i := d.mono (j := 0) (k := i) (Nat.zero_le _) (by omega)
  have min := d.mono (j := i + 1) (k := ops.size) (by omega) (Nat.le_refl _)
  have mii := d.mono (j := i) (k := i + 1) (by omega) (by omega)
  have outs : ∀ id, ¬ ((S i).nx ≤ id ∧ id < (S (i + 1)).nx) → φ2 id = φ' id := fun id h => p.out id (by rw [e0, e1]; omega)
  refine ⟨I.dn.more hi hrd, I.ext.trans p.ext, fun id h => ?_, fun id h1 h2 h3 => ?_, p.rel.sub (fun id o h => ⟨hS_lt d (E := E1 E i) (by rw [h]; simp), by rw [g1]; exact h⟩) I.rel.nxg,
    fun id h1 h2 => ?_, fun id h1 h2 => ?_, fun id L h => ?_, p.os.trans I.os, p.tape.trans I.tape, p.output.trans I.output, Nat.le_trans I.size p.size, fun r hr hno => ?_, fun id im h1 h2 h3 => ?_, hf, hd.trans I.dfs⟩
  · rw [outs id (by omega)]; exact I.out id h
  · by_cases hc : (S i).nx ≤ id ∧ id < (S (i + 1)).nx
    · rw [d.ownK hi hc.1 hc.2]; simp [E1]
    · rw [outs id hc] at h3
      have := I.used id h1 h2 h3
      simp [E1, this]
  · rw [← g1] at h2
    have := p.live id (by omega) h2
    rw [g0] at this
    exact I.live id h1 this
  · have := p.livw id (by omega) (h2.of_eq (g1 id).symm)
    exact I.livw id h1 (this.of_eq (g0 id))
  · obtain ⟨L', h'⟩ := I.keep id L h
    rw [← g0] at h'
    obtain ⟨L2, h2⟩ := p.keep id L' h'
    exact ⟨L2, by rw [← g1]; exact h2⟩
  · refine (p.frame r (by have := I.size; omega) fun id im h1 h2 h3 => ?_).trans (I.frame r hr hno)
    have h2 := h2.of_eq (g0 id)
    by_cases hid : id < (S 0).nx
    · exact hno id im h1 (I.livw id hid h2) (by rw [← I.out id (Or.inl hid)]; exact h3)
    · rcases I.news id im (by omega) h2.ne h3 with h | ⟨i0, m0, a1, b1, c1, d1⟩
      · omega
      · rw [← d1]; exact hno i0 m0 a1 b1 c1
  · rw [← g1] at h2
    by_cases hid : id < (S i).nx
    · have h4 := p.live id (by omega) h2
      rw [g0] at h4
      exact I.news id im h1 h4 (by rw [← outs id (by omega)]; exact h3)
    · rcases p.news id im (by omega) h2 h3 with h | ⟨i0, m0, a1, b1, c1, d1⟩
      · exact Or.inl (Nat.le_trans I.size h)
      · have b1 := b1.of_eq (g0 i0)
        by_cases hi0 : i0 < (S 0).nx
        · exact Or.inr ⟨i0, m0, a1, I.livw i0 hi0 b1, by rw [← I.out i0 (Or.inl hi0)]; exact c1, d1⟩
        · rcases I.news i0 m0 (by omega) b1.ne c1 with h | ⟨i1, m1, a2, b2, c2, d2⟩
          · exact Or.inl (by rw [← d1]; exact h)
          · exact Or.inr ⟨i1, m1, a2, b2, c2, d2.trans d1⟩

/-! ### Frames -/
theorem DC.frames (d : DC P R lk sz ops F S M V) : ∀ k, k ≤ ops.size → F k = wrT (F 0) ops V (fun _ => true) k := by
  intro k
  induction k with
  | zero => intro _; rfl
  | succ k ih =>
    intro hk
    have h := (d.at (Array.getElem?_eq_getElem (show k < ops.size by omega)))
    obtain ⟨_, _, h2, _⟩ := h
    simp only [wrT, dstOf]
    rw [Array.getElem?_eq_getElem (show k < ops.size by omega)]
    simp only [Option.bind_some]
    rw [← ih (by omega)]
    unfold setA at h2
    split at h2
    · rename_i hdst; rw [hdst]; simp only [Option.some.injEq] at h2; exact h2.symm
    · rename_i t hdst
      rw [hdst]
      split at h2
      · simp only [Option.some.injEq] at h2; exact h2.symm
      · cases h2

theorem DC.looks (d : DC P R lk sz ops F S M V) (hE : Dn ops E) (hi : i < ops.size) (hi' : E i = false) (hrd : ∀ j, bits ops i j = true → E j = true) {t : Nat} (ht : t ∈ (ops[i]'hi).looksAt ops) :
    (F i).get t = (wrT (F 0) ops V E ops.size).get t := by
  rw [d.frames i (by omega), ← wrT_lt (f0 := F 0) (ops := ops) (V := V) (i := i) ops.size (by omega)]
  refine wrT_agree _ fun j hj hdj => ?_
  have hoj : ops[j]? = some (ops[j]'hj) := Array.getElem?_eq_getElem hj
  have hdj' : (ops[j]'hj).dst = some t := by unfold dstOf at hdj; rw [hoj] at hdj; exact hdj
  rcases Nat.lt_trichotomy j i with h | h | h
  · rw [decide_eq_true h]
    cases hEj : E j with
    | true => rfl
    | false =>
      have hb : bits ops i j = false := by
        cases hb : bits ops i j with
        | false => rfl
        | true => have := hrd j hb; rw [hEj] at this; cases this
      have := (Oper.apart_spec (d.apart h hoj (Array.getElem?_eq_getElem hi) hb)).1 t hdj'
      exact absurd ht this
  · subst h; rw [hi']; simp
  · rw [decide_eq_false (by omega)]
    cases hEj : E j with
    | false => rfl
    | true =>
      have hb : bits ops j i = false := by
        cases hb : bits ops j i with
        | false => rfl
        | true => have := hE _ _ hj hEj hb; rw [hi'] at this; cases this
      have := (Oper.apart_spec (d.apart h (Array.getElem?_eq_getElem hi) hoj hb)).2.2 t hdj'
      exact absurd ht this

theorem DC.put1 (d : DC P R lk sz ops F S M V) (hE : Dn ops E) (hi : i < ops.size) (hi' : E i = false) {fr2 : Fr} (h : setA sz (wrT (F 0) ops V E ops.size) (ops[i]'hi).dst (V i) = some fr2) (t : Nat) :
    (wrT (F 0) ops V (E1 E i) ops.size).get t = fr2.get t := by
  have hoi : ops[i]? = some (ops[i]'hi) := Array.getElem?_eq_getElem hi
  have hm := wrT_more (f0 := F 0) (ops := ops) (V := V) (E := E) (i := i) (t := t) ops.size hi hi' (fun j h1 h2 dd e1 e2 => by
    have hoj : ops[j]? = some (ops[j]'h2) := Array.getElem?_eq_getElem h2
    cases hEj : E j with
    | false => rfl
    | true =>
      have hb : bits ops j i = false := by
        cases hb : bits ops j i with
        | false => rfl
        | true => have := hE _ _ h2 hEj hb; rw [hi'] at this; cases this
      have e1' : (ops[i]'hi).dst = some dd := by unfold dstOf at e1; rw [hoi] at e1; exact e1
      have e2' : (ops[j]'h2).dst = some dd := by unfold dstOf at e2; rw [hoj] at e2; exact e2
      exact absurd e2' ((Oper.apart_spec (d.apart h1 hoi hoj hb)).2.1 dd e1'))
  show (wrT (F 0) ops V (fun j => E j || decide (j = i)) ops.size).get t = _
  rw [hm]
  have hdst : dstOf ops i = (ops[i]'hi).dst := by unfold dstOf; rw [hoi]; rfl
  rw [hdst]
  unfold setA at h
  split at h
  · rename_i hd; rw [hd]; cases h; simp
  · rename_i u hd
    rw [hd]
    split at h
    · cases h
      rw [T.get_put]
      by_cases hu : t = u
      · subst hu; simp
      · rw [if_neg hu, if_neg (fun e => hu (by cases e; rfl))]
    · cases h

theorem DC.canSet (d : DC P R lk sz ops F S M V) (hi : i < ops.size) (f : Fr) : ∃ fr2, setA sz f (ops[i]'hi).dst (V i) = some fr2 := by
  obtain ⟨_, _, h2, _⟩ := d.at (Array.getElem?_eq_getElem hi)
  unfold setA at *
  split at h2
  · exact ⟨_, rfl⟩
  · split at h2
    · rename_i ht; exact ⟨_, if_pos ht⟩
    · cases h2

/-- One operation, whenever it is its turn. -/
theorem Inv.step (hR : RecOK P R) (I : Inv P ops sz lk F S V φ w0 df E φ' a w) (d : DC P R lk sz ops F S M V) (hi : i < ops.size) (hi' : E i = false) (hrd : ∀ j, bits ops i j = true → E j = true)
    (hg : P.globals.size ≤ (S 0).nx) {n : Nat} {K : Act → World → Prop} {Q : Exit → Act → World → Prop} (hk : ∀ φ2 a2 w2, Inv P ops sz lk F S V φ w0 df (E1 E i) φ2 a2 w2 → K a2 w2) : wpOpIn (Fn ro) n P ops Q i K a w := by
  have hoi : ops[i]? = some (ops[i]'hi) := Array.getElem?_eq_getElem hi
  have fresh := I.usedN d hi hi'
  have m0i := d.mono (j := 0) (k := i) (Nat.zero_le _) (by omega)
  have min := d.mono (j := i) (k := ops.size) (by omega) (Nat.le_refl _)
  obtain ⟨fr2, hset⟩ := d.canSet hi (wrT (F 0) ops V E ops.size)
  have hput := d.put1 I.dn hi hi' hset
  have step : ∀ lk2 s2 s3, stepV P R lk2 ops.toList (F i) s2 (ops[i]'hi) = some (V i, s3) → stepA P R lk2 sz ops.toList (wrT (F 0) ops V E ops.size) s2 (ops[i]'hi) = some (fr2, s3) := fun lk2 s2 s3 h => by
    rw [stepV_congr (fr2 := wrT (F 0) ops V E ops.size) (fun t ht => d.looks I.dn hi hi' hrd ht)] at h
    rw [stepA_eq, h]; simp only [Option.bind_some]; rw [hset]; rfl
  cases hl : loudK ops i with
  | false =>
    obtain ⟨q1, q2⟩ := d.quiet hi hl
    have hlb : lbar ops i = false := by unfold lbar; rw [hl]; rfl
    cases hqt : quietK ops i with
    | false =>
      have q3 := d.pureV hi hl hqt
      have hh : HR P φ' ⟨T.nil, (S i).nx⟩ w := I.rel.sub (fun id o h => by cases h) (Nat.le_trans hg m0i)
      refine stepA_sound (lk' := (S i).nx) hR hoi hh I.frm (Nat.le_refl _) (by rw [q1] at fresh; exact fresh) (step (S i).nx ⟨T.nil, (S i).nx⟩ _ (q3 _ _)) fun v v' φ2 w2 hv p hf _ => ?_
      refine hk φ2 _ w2 (I.side (s0 := ⟨T.nil, (S i).nx⟩) (s1 := ⟨T.nil, (S i).nx⟩) d hi hi' hrd hlb rfl q1.symm (fun id h => absurd rfl h) (fun id h => ?_) p (hf.congr hput) (put_defers _ _ _))
      rw [q2]
      cases hs : (S i).hp.get id with
      | none => rfl
      | some o => have := d.bnd (k := i) (by omega) id (by rw [hs]; simp); omega
    | true =>
      obtain ⟨b, hlb2, hb0, hne, q3⟩ := d.quietV hi hqt
      have hsame := hS_quiet d I.dn hi hqt hi' hrd hlb2 hb0
      have hg0 : ∀ id, ((T.nil : T AObj).put b ((S i).hp.get b)).get id = if id = b then (S i).hp.get b else none := fun id => by rw [T.get_put]; rfl
      have hh : HR P φ' ⟨(T.nil : T AObj).put b ((S i).hp.get b), (S i).nx⟩ w := I.rel.sub (fun id o h => by
        simp only at h
        rw [hg0] at h
        split at h
        · rename_i e; subst e; exact ⟨Nat.lt_of_lt_of_le hb0 m0i, by rw [hsame]; exact h⟩
        · cases h) (Nat.le_trans hg m0i)
      refine stepA_sound (lk' := (S i).nx) hR hoi hh I.frm (Nat.le_refl _) (by rw [q1] at fresh; exact fresh) (step (S i).nx _ _ (q3 _ _ (by rw [hg0, if_pos rfl]))) fun v v' φ2 w2 hv p hf _ => ?_
      refine hk φ2 _ w2 (I.side (s0 := ⟨(T.nil : T AObj).put b ((S i).hp.get b), (S i).nx⟩) (s1 := ⟨(T.nil : T AObj).put b ((S i).hp.get b), (S i).nx⟩) d hi hi' hrd hlb rfl q1.symm (fun id h => ?_) (fun id h => ?_) p (hf.congr hput) (put_defers _ _ _))
      · simp only at h
        rw [hg0] at h
        split at h
        · rename_i e; rw [e]; exact Nat.lt_of_lt_of_le hb0 m0i
        · exact absurd rfl h
      · rw [q2]
        show _ = ((T.nil : T AObj).put b ((S i).hp.get b)).get id
        rw [hg0, if_neg (by omega)]
        cases hs : (S i).hp.get id with
        | none => rfl
        | some o => have := d.bnd (k := i) (by omega) id (by rw [hs]; simp); omega
  | true =>
    obtain ⟨s1, h1, h2, h3, _⟩ := d.at hoi
    have e1 : s1.nx = (S (i + 1)).nx := by rw [h3, unh_nx]
    cases hbar : barK ops i with
    | false =>
      have hlb : lbar ops i = false := by unfold lbar; rw [hbar]; simp
      rw [hbar] at h1
      simp only [Bool.false_eq_true, if_false] at h1
      have hsee := fun id o h => d.sees (id := id) (o := o) I.dn hi hl hi' hrd h
      have hh : HR P φ' (hid (S i) (badOf (M i) (rowK ops i))) w := by
        show HRF _ _ _ (hid (S i) _).nx _
        rw [hid_nx]
        exact I.rel.sub hsee (Nat.le_trans hg m0i)
      refine stepA_sound (lk' := (S i).nx) hR hoi hh I.frm (by rw [hid_nx]; exact Nat.le_refl _) (by rw [hid_nx, e1]; exact fresh) (step _ _ _ h1) fun v v' φ2 w2 hv p hf _ => ?_
      refine hk φ2 _ w2 (I.side d hi hi' hrd hlb (hid_nx _ _) e1 (fun id h => ?_) (fun id h => ?_) p (hf.congr hput) (put_defers _ _ _))
      · obtain ⟨o, ho⟩ := Option.ne_none_iff_exists'.1 h
        exact (hsee id o ho).1
      · rw [h3, unh_get]
        split
        · rename_i hb
          rcases d.inBad hi hb with ⟨k, k1, k2, k3, k4, k5⟩ | ⟨k1, _⟩
          · have := d.mono (j := k + 1) (k := i) (by omega) (by omega)
            omega
          · rw [hbar] at k1; cases k1
        · rfl
    | true =>
      have hlb : lbar ops i = true := by unfold lbar; rw [hl, hbar]; rfl
      rw [hbar] at h1
      simp only [if_true] at h1
      have hb := fun id => hS_bar d I.dn hi hlb hi' hrd id
      have hfull : HR P φ' (S i) w := I.rel.sub (fun id o h => ⟨d.bnd (k := i) (by omega) id (by rw [h]; simp), by rw [← (hb id).1]; exact h⟩) (Nat.le_trans hg m0i)
      have hold : ∀ id, Go.Ev.inBad (badOf (M i) (rowK ops i)) id = true → id < (S i).nx := fun id h => by
        rcases d.inBad hi h with ⟨k, k1, k2, k3, k4, k5⟩ | ⟨_, k1⟩
        · have := d.mono (j := k + 1) (k := i) (by omega) (by omega)
          omega
        · omega
      have hh : HR P φ' (hid (S i) (badOf (M i) (rowK ops i))) w := by
        show HRF _ _ _ (hid (S i) _).nx _
        rw [hid_nx]
        refine hfull.sub (fun id o h => ?_) hfull.nxg
        rw [hid_get] at h
        split at h
        · cases h
        · exact ⟨d.bnd (k := i) (by omega) id (by rw [h]; simp), h⟩
      refine stepA_sound (lk' := lk) hR hoi hh I.frm (by rw [hid_nx]; exact Nat.le_trans d.l0 m0i) (by rw [hid_nx, e1]; exact fresh) (step _ _ _ h1) fun v v' φ2 w2 hv p hf _ => ?_
      have p2 := p.unhide hfull hold
      rw [← h3] at p2
      exact hk φ2 _ w2 (I.bar d hi hrd rfl rfl (fun id => (hb id).1) (fun id => (hb id).2) p2 (hf.congr hput) (put_defers _ _ _))

/-! ### How many are left -/
def left (E : Nat → Bool) : Nat → Nat
  | 0 => 0
  | k + 1 => (if E k then 0 else 1) + left E k
theorem left_le (E : Nat → Bool) : ∀ n, left E n ≤ n := by
  intro n
  induction n with
  | zero => exact Nat.le_refl _
  | succ n ih => simp only [left]; split <;> omega
theorem left_zero {E : Nat → Bool} : ∀ n, left E n = 0 → ∀ j, j < n → E j = true := by
  intro n
  induction n with
  | zero => intro _ j h; omega
  | succ n ih =>
    intro h j hj
    simp only [left] at h
    by_cases hE : E n = true
    · rw [if_pos hE] at h
      by_cases hjn : j = n
      · subst hjn; exact hE
      · exact ih (by omega) j (by omega)
    · rw [if_neg hE] at h; omega
theorem left_more {E : Nat → Bool} {i : Nat} (hi' : E i = false) : ∀ n, i < n → left (E1 E i) n + 1 = left E n := by
  intro n
  induction n with
  | zero => intro h; omega
  | succ n ih =>
    intro h
    simp only [left]
    by_cases hin : i = n
    · subst hin
      rw [hi']
      have : ∀ k, k ≤ i → left (E1 E i) k = left E k := by
        intro k
        induction k with
        | zero => intro _; rfl
        | succ k ihk =>
          intro hk
          simp only [left]
          rw [ihk (by omega)]
          simp [E1, show k ≠ i by omega]
      rw [this i (Nat.le_refl _)]
      simp [E1]; omega
    · have := ih (by omega)
      simp only [E1, show n ≠ i from fun e => hin e.symm, decide_false, Bool.or_false] at this ⊢
      omega

theorem Inv.all (hR : RecOK P R) (d : DC P R lk sz ops F S M V) (hg : P.globals.size ≤ (S 0).nx) {n : Nat} {Q : Exit → Act → World → Prop}
    (hq : ∀ E φ' a w, Inv P ops sz lk F S V φ w0 df E φ' a w → (∀ j, j < ops.size → E j = true) → Q .normal a w) :
    ∀ (fuel : Nat) (listed : Array Bool) (φ' : Inj) (a : Act) (w : World), listed.size = ops.size → left (fun j => listed.getD j false) ops.size ≤ fuel →
      Inv P ops sz lk F S V φ w0 df (fun j => listed.getD j false) φ' a w → wpAnyIn (Fn ro) n P .any ops Q fuel listed a w := by
  have ends : ∀ (listed : Array Bool), listed.size = ops.size → Region.ready .any ops listed = [] → ∀ j, j < ops.size → listed.getD j false = true := by
    intro listed hs h0 j
    induction j using Nat.strongRecOn with
    | _ j ih =>
      intro hj
      cases hj' : listed.getD j false with
      | true => rfl
      | false =>
        have : j ∈ Region.ready .any ops listed := by
          rw [mem_ready]
          refine ⟨?_, _, Array.getElem?_eq_getElem hj, fun e he hb => ?_⟩
          · simp only [Array.getD_eq_getD_getElem?] at hj' ⊢
            rw [Array.getElem?_eq_getElem (by omega)] at hj' ⊢
            exact hj'
          · have hlt := d.edges (Array.getElem?_eq_getElem hj) e he hb
            exact ih e.on hlt (by omega)
        rw [h0] at this; cases this
  intro fuel
  induction fuel with
  | zero =>
    intro listed φ' a w hs hl I
    have hall := left_zero _ (Nat.le_zero.1 hl)
    refine ⟨?_, hq _ φ' a w I hall⟩
    cases hr : Region.ready .any ops listed with
    | nil => rfl
    | cons x xs =>
      have : x ∈ Region.ready .any ops listed := by rw [hr]; simp
      obtain ⟨h1, o, ho, _⟩ := mem_ready.1 this
      have hx := (Array.getElem?_eq_some_iff.1 ho).1
      have h2 := hall x hx
      simp only [Array.getD_eq_getD_getElem?] at h1 h2
      rw [Array.getElem?_eq_getElem (by omega)] at h1 h2
      simp_all
  | succ fuel ih =>
    intro listed φ' a w hs hl I
    refine ⟨fun h0 => hq _ φ' a w I (ends listed hs h0), fun i hi => ?_⟩
    obtain ⟨h1, o, ho, hall⟩ := mem_ready.1 hi
    have hlt := (Array.getElem?_eq_some_iff.1 ho).1
    have hi' : listed.getD i false = false := by
      simp only [Array.getD_eq_getD_getElem?] at h1 ⊢
      rw [Array.getElem?_eq_getElem (by omega)] at h1 ⊢
      exact h1
    have hrd : ∀ j, bits ops i j = true → listed.getD j false = true := fun j hj => by
      obtain ⟨e, e1, e2, e3, e4⟩ := d.bit_inv ho hj
      have h5 := hall e e1 e2
      rcases e4 with e4 | e4
      · rw [← e4]; exact h5
      · exact I.dn e.on j (by omega) h5 e4
    refine I.step hR d hlt hi' hrd hg fun φ2 a2 w2 I2 => ?_
    have he : (fun j => (listed.setIfInBounds i true).getD j false) = E1 (fun j => listed.getD j false) i := by
      funext j
      simp only [E1, Array.getD_eq_getD_getElem?]
      by_cases hj : j = i
      · subst hj; rw [Array.getElem?_setIfInBounds_self_of_lt (by omega)]; simp
      · rw [Array.getElem?_setIfInBounds_ne (Ne.symm hj)]; simp [hj]
    refine ih (listed.setIfInBounds i true) φ2 a2 w2 (by simpa using hs) ?_ (by rw [he]; exact I2)
    rw [he]
    have := left_more (E := fun j => listed.getD j false) hi' ops.size hlt
    omega
end

variable {fr : Fr} {s : HS} {a : Act} {w : World}
theorem drawA_sound (hR : RecOK P R) (hab : AbR R) (hmix : P.follows .mixedOrders = true) {n id : Nat} {ops : Array Oper} {pl : List PlanRow} {fr' : Fr} {s' : HS} {Q : Exit → Act → World → Prop}
    (hpl : planA ops = some pl) (h : drawA P R lk sz ops.toList ops.toList pl 0 [] fr s = some (fr', s')) (c : Cx P φ sz lk B ro fr s a w) (hfr : Fresh φ s.nx s'.nx)
    (hq : ∀ a' w' φ', Post P φ lk s w φ' s' w' → Cx P φ' sz lk B ro fr' s' a' w' → Q .normal a' w') : (Code.region id ops true).wpIn (Fn ro) n P Q a w := by
  have hok : drawOk ops = true := by
    cases hc : drawOk ops with
    | true => rfl
    | false => unfold planA at hpl; rw [hc] at hpl; cases hpl
  unfold planA at hpl
  rw [if_pos hok] at hpl
  simp only [Option.some.injEq] at hpl
  obtain ⟨F, S, M, V, e1, e2, e3, e4, e5, tr⟩ := draw_trace (P := P) (R := R) (lk := lk) (sz := sz) (ops := ops) (pl := pl) ops.toList pl 0 [] fr fr' s s' rfl rfl h
  subst e1 e2
  have hsz : 0 + ops.toList.length = ops.size := by simp
  rw [hsz] at e4 e5
  subst e4 e5
  have d : DC P R lk sz ops F S M V := ⟨by rw [hpl]; exact tr, hok, hab, fun j hj => by obtain ⟨o, ho⟩ := Option.ne_none_iff_exists'.1 hj; exact c.hr.bnd j o ho, c.lk, e3⟩
  have m0n := d.mono (j := 0) (k := ops.size) (Nat.zero_le _) (Nat.le_refl _)
  refine wpIn_region_any hmix ?_
  have hE0 : (fun j => (Array.replicate ops.size false).getD j false) = fun _ => false := by
    funext j
    simp only [Array.getD_eq_getD_getElem?, Array.getElem?_replicate]
    split <;> rfl
  have hb0 : bet ops (fun _ => false) ops.size = 0 := by
    rcases (bet_spec ops (fun _ => false) ops.size).2.1 with h | h
    · exact h
    · cases h.1
  have h00 : ∀ id, hS ops S (fun _ => false) id = (S 0).hp.get id := fun id => by
    unfold hS
    rw [hb0]
    split
    · rfl
    · rename_i hlt
      rw [if_neg (by simp)]
      cases hs : (S 0).hp.get id with
      | none => rfl
      | some o => exact absurd (c.hr.bnd id o hs) hlt
  have I0 : Inv P ops sz lk F S V φ w a.defers (fun _ => false) φ a { w with drawn := w.drawn + 1 } := by
    have hr := (c.hr.same (w' := { w with drawn := w.drawn + 1 }) rfl)
    refine ⟨(fun i j _ h _ => by cases h), Sub.refl _, fun _ _ => rfl, fun id h1 h2 h3 => absurd (hfr id h1 h2) h3, hr.sub (fun id o h => ?_) (Nat.le_trans c.hr.nxg m0n), fun id _ h => by rw [h00] at h; exact h, fun id _ h => h.of_eq (h00 id),
      fun id L h => ⟨L, by rw [h00]; exact h⟩, rfl, rfl, rfl, Nat.le_refl _, fun _ _ _ => rfl, fun id im h1 h2 _ => ?_, ?_, rfl⟩
    · rw [h00] at h; exact ⟨Nat.lt_of_lt_of_le (c.hr.bnd id o h) m0n, h⟩
    · rw [h00] at h2
      obtain ⟨o, ho⟩ := Option.ne_none_iff_exists'.1 h2
      have := c.hr.bnd id o ho; omega
    · refine FrR.congr (fun t => ?_) c.fr
      have h1 := wrT_agree (f0 := F 0) (ops := ops) (V := V) (E := fun _ => false) (E' := fun j => decide (j < 0)) (t := t) ops.size (fun j _ _ => by simp)
      rw [h1, wrT_lt ops.size (Nat.zero_le _)]; rfl
  refine Inv.all (φ := φ) (w0 := w) (df := a.defers) hR d (c.hr.nxg) (fun E φ' a' w' I hall => ?_) ops.size _ φ a _ (by simp) (left_le _ _) (by rw [hE0]; exact I0)
  -- all are carried out
  obtain ⟨b1, b2, b3⟩ := bet_spec ops E ops.size
  have hn : ∀ id, hS ops S E id = (S ops.size).hp.get id := fun id => by
    have nb : ∀ j, bet ops E ops.size ≤ j → j < ops.size → lbar ops j = false := fun j h1 h2 => by
      have := b3 j h1 h2
      rw [hall j h2, Bool.true_and] at this; exact this
    have h0β := d.mono (j := 0) (k := bet ops E ops.size) (Nat.zero_le _) b1
    unfold hS
    split
    · rename_i h1; rw [d.lockR b1 (Nat.le_refl _) nb h1]
    · rename_i h1
      by_cases hlt : id < (S ops.size).nx
      · obtain ⟨o1, o2, o3⟩ := d.ownS (id := id) (by omega) hlt
        rw [if_pos ⟨hlt, hall _ o1⟩]
        generalize own (NX S) id ops.size = k at *
        have hkβ : bet ops E ops.size ≤ k := by
          rcases Nat.lt_or_ge k (bet ops E ops.size) with a | a
          · have := d.mono (j := k + 1) (k := bet ops E ops.size) a (by omega); omega
          · exact a
        rw [d.lockR (k := k + 1) (m := ops.size) o1 (Nat.le_refl _) (fun j h1 h2 => nb j (by omega) h2) o3]
      · rw [if_neg (fun h => hlt h.1)]
        cases hs : (S ops.size).hp.get id with
        | none => rfl
        | some o => exact absurd (d.bnd (k := ops.size) (Nat.le_refl _) id (by rw [hs]; simp)) hlt
  have p : Post P φ lk (S 0) w φ' (S ops.size) w' :=
    { ext := I.ext, out := I.out, nx := m0n, os := I.os, tape := I.tape, output := I.output, size := I.size, frame := I.frame
      rel := I.rel.sub (fun id o h => ⟨d.bnd (k := ops.size) (Nat.le_refl _) id (by rw [h]; simp), by rw [hn]; exact h⟩) I.rel.nxg
      live := fun id h1 h2 => I.live id h1 (by rw [hn]; exact h2)
      livw := fun id h1 h2 => I.livw id h1 (h2.of_eq (hn id).symm)
      lock := fun id h => (d.main ops.size (Nat.le_refl _)).2.2.2.2.2.1.lock d.l0 id h
      keep := fun id L h => by obtain ⟨L', h'⟩ := I.keep id L h; exact ⟨L', by rw [← hn]; exact h'⟩
      news := fun id im h1 h2 h3 => I.news id im h1 (by rw [hn]; exact h2) h3 }
  refine hq a' w' φ' p (c.post p (FrR.congr (fun t => ?_) I.frm) I.dfs)
  rw [d.frames ops.size (Nat.le_refl _)]
  exact wrT_agree _ (fun j hj _ => (hall j hj).symm)
end Go.Ev
