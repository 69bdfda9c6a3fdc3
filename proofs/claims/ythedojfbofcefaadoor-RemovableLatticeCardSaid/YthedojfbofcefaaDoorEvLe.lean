import Derived.Test.YthedojfbofcefaaDoorEvDraw3
import Derived.RangeFuncNested
/- A region that draws its order, IV: the whole of it. -/
namespace Go.Ev
open Go
variable {P : Program} {R : Rec} {φ : Inj} {sz lk B : Nat} {ro : Option Nat}

structure Inv (P : Program) (ops : Array Oper) (sz lk : Nat) (F : Nat → Fr) (S : Nat → HS) (V : Nat → Value) (φ : Inj) (w0 : World) (df : List Deferred) (E : Nat → Bool) (φ' : Inj) (a : Act) (w : World) : Prop where
  dn : Dn ops E
  ext : Sub φ φ'
  out : ∀ id, id < (S 0).nx ∨ (S ops.size).nx ≤ id → φ' id = φ id
  used : ∀ id, (S 0).nx ≤ id → id < (S ops.size).nx → φ' id ≠ none → E (own (NX S) id ops.size) = true
  rel : HRF P φ' (hS ops S E) (S ops.size).nx w
  live : ∀ id, id < (S 0).nx → hS ops S E id ≠ none → (S 0).hp.get id ≠ none
  livw : ∀ id, id < (S 0).nx → Wr (hS ops S E) id → Wr (S 0).hp.get id
  keep : ∀ id L, (S 0).hp.get id = some (.loop L) → ∃ L', hS ops S E id = some (.loop L')
  os : w.os = w0.os
  tape : w.tape = w0.tape
  output : w.output = w0.output
  drawn : w0.drawn ≤ w.drawn
  size : w0.heap.size ≤ w.heap.size
  frame : ∀ r, r < w0.heap.size → (∀ id im, lk ≤ id → Wr (S 0).hp.get id → φ id = some im → im.blk ≠ r) → w.heap[r]? = w0.heap[r]?
  news : ∀ id im, (S 0).nx ≤ id → hS ops S E id ≠ none → φ' id = some im → w0.heap.size ≤ im.blk ∨ ∃ i0 m0, lk ≤ i0 ∧ Wr (S 0).hp.get i0 ∧ φ i0 = some m0 ∧ m0.blk = im.blk
  frm : FrR φ' sz (wrT (F 0) ops V E ops.size) a.tmps
  dfs : a.defers = df

section
variable {ops : Array Oper} {F : Nat → Fr} {S : Nat → HS} {M : Nat → List (Nat × Nat × Nat)} {V : Nat → Value} {E : Nat → Bool} {i : Nat} {w0 : World} {df : List Deferred} {φ' : Inj} {a : Act} {w : World}

theorem HRF.sub {P : Program} {φ : Inj} {h g : Nat → Option AObj} {n m : Nat} {w : World} (H : HRF P φ h n w) (hs : ∀ id o, g id = some o → id < m ∧ h id = some o) (hm : P.globals.size ≤ m) : HRF P φ g m w where
  obj := fun id o e => H.obj id o (hs id o e).2
  inj := fun i j oi oj mi mj a b => H.inj i j oi oj mi mj (hs i oi a).2 (hs j oj b).2
  bnd := fun id o e => (hs id o e).1
  glob := H.glob
  nxg := hm

/-- What is hidden from a step is as it was. -/
theorem Post.unhide {P : Program} {φ φ2 : Inj} {lk : Nat} {s s1 : HS} {w w2 : World} {bad : List (Nat × Nat)} (p : Post P φ lk (hid s bad) w φ2 s1 w2) (H : HR P φ s w) (hb : ∀ id, Go.Ev.inBad bad id = true → id < s.nx) :
    Post P φ lk s w φ2 (unh s s1 bad) w2 := by
  have pn := p.nx
  rw [hid_nx] at pn
  have outs : ∀ id, id < s.nx → φ2 id = φ id := fun id h => p.out id (by rw [hid_nx]; exact Or.inl h)
  have hide : ∀ id, Go.Ev.inBad bad id = true → (hid s bad).hp.get id = none := fun id h => by rw [hid_get, if_pos h]
  have shown : ∀ id, (hid s bad).hp.get id ≠ none → s.hp.get id ≠ none ∧ ¬ Go.Ev.inBad bad id = true := fun id h => by
    rw [hid_get] at h
    split at h
    · exact absurd rfl h
    · rename_i h2; exact ⟨h, h2⟩
  have shownW : ∀ id, Wr (hid s bad).hp.get id → Wr s.hp.get id ∧ ¬ Go.Ev.inBad bad id = true := fun id h => by
    have h2 := shown id h.ne
    exact ⟨h.of_eq (by rw [hid_get, if_neg h2.2]), h2.2⟩
  have still : ∀ id o im, Go.Ev.inBad bad id = true → s.hp.get id = some o → φ id = some im → w2.heap[im.blk]? = w.heap[im.blk]? := fun id o im h1 h2 h3 =>
    p.frame _ (HR.lt H h2 h3) fun i2 m2 _ g2 g3 => by
      obtain ⟨⟨o2, g4, g6⟩, g5⟩ := shownW i2 g2
      exact H.inj i2 id o2 o m2 im g4 h2 g3 h3 (fun e => g5 (by rw [e]; exact h1)) (Or.inl g6)
  have mixed : ∀ x y ox oy mx my, Go.Ev.inBad bad x = true → ¬ Go.Ev.inBad bad y = true → s.hp.get x = some ox → s1.hp.get y = some oy → φ2 x = some mx → φ2 y = some my → (wrO ox = true ∨ wrO oy = true) → mx.blk ≠ my.blk := fun x y ox oy mx my bx nby hx hy h3 h4 hwr => by
    rw [outs x (hb x bx)] at h3
    have hlt := HR.lt H hx h3
    rcases Nat.lt_or_ge y s.nx with hyn | hyn
    · have h5 := (shown y (p.live y (by rw [hid_nx]; exact hyn) (by rw [hy]; simp))).1
      obtain ⟨oy', hy'⟩ := Option.ne_none_iff_exists'.1 h5
      rw [outs y hyn] at h4
      refine H.inj x y ox oy' mx my hx hy' h3 h4 (fun e => nby (by rw [← e]; exact bx)) ?_
      rcases hwr with h | h
      · exact Or.inl h
      · obtain ⟨⟨o3, g4, g6⟩, _⟩ := shownW y (p.livw y (by rw [hid_nx]; exact hyn) ⟨oy, hy, h⟩)
        rw [hy'] at g4; cases g4; exact Or.inr g6
    · rcases p.news y my (by rw [hid_nx]; exact hyn) (by rw [hy]; simp) h4 with h5 | ⟨i0, m0, a1, b1, c1, d1⟩
      · omega
      · rw [← d1]
        obtain ⟨⟨o3, g4, g6⟩, g5⟩ := shownW i0 b1
        exact H.inj x i0 ox o3 mx m0 hx g4 h3 c1 (fun e => g5 (by rw [← e]; exact bx)) (Or.inr g6)
  refine ⟨p.ext, fun id h => p.out id (by rw [hid_nx]; rw [unh_nx] at h; exact h), ⟨fun id o h => ?_, fun x y ox oy mx my hx hy h3 h4 hne hwr => ?_, fun id o h => ?_, fun g hg => p.rel.glob g hg, by rw [unh_nx]; exact p.rel.nxg⟩,
    by rw [unh_nx]; exact pn, fun id h1 h2 => ?_, fun id h1 h2 => ?_, fun id h => ?_, fun id L h => ?_, p.os, p.tape, p.output, p.drawn, p.size, fun r hr hno => ?_, fun id im h1 h2 h3 => ?_⟩
  · rw [unh_get] at h
    split at h
    · rename_i hbad
      obtain ⟨im, h1, h2⟩ := H.obj id o h
      exact ⟨im, p.ext _ _ h1, by rw [still id o im hbad h h1]; exact h2.mono p.ext⟩
    · exact p.rel.obj id o h
  · rw [unh_get] at hx hy
    split at hx
    · rename_i bx
      split at hy
      · rename_i b_y
        rw [outs x (hb x bx)] at h3
        rw [outs y (hb y b_y)] at h4
        exact H.inj x y ox oy mx my hx hy h3 h4 hne hwr
      · rename_i nby
        exact mixed x y ox oy mx my bx nby hx hy h3 h4 hwr
    · rename_i nbx
      split at hy
      · rename_i b_y
        exact (mixed y x oy ox my mx b_y nbx hy hx h4 h3 hwr.symm).symm
      · exact p.rel.inj x y ox oy mx my hx hy h3 h4 hne hwr
  · rw [unh_nx]
    rw [unh_get] at h
    split at h
    · rename_i hbad; have := hb id hbad; omega
    · exact p.rel.bnd id o h
  · rw [unh_get] at h2
    split at h2
    · exact h2
    · exact (shown id (p.live id (by rw [hid_nx]; exact h1) h2)).1
  · by_cases hbad : Go.Ev.inBad bad id = true
    · exact h2.of_eq (by rw [unh_get, if_pos hbad])
    · exact (shownW id (p.livw id (by rw [hid_nx]; exact h1) (h2.of_eq (by rw [unh_get, if_neg hbad])))).1
  · rw [unh_get]
    split
    · rfl
    · rename_i nb; rw [p.lock id h, hid_get, if_neg nb]
  · rw [unh_get]
    split
    · exact ⟨L, h⟩
    · rename_i nb; exact p.keep id L (by rw [hid_get, if_neg nb]; exact h)
  · exact p.frame r hr fun id im h1 h2 h3 => hno id im h1 (shownW id h2).1 h3
  · rw [unh_get] at h2
    split at h2
    · rename_i hbad; have := hb id hbad; omega
    · rcases p.news id im (by rw [hid_nx]; exact h1) h2 h3 with h5 | ⟨i0, m0, a1, b1, c1, d1⟩
      · exact Or.inl h5
      · exact Or.inr ⟨i0, m0, a1, (shownW i0 b1).1, c1, d1⟩

theorem Dn.more (hE : Dn ops E) (hi : i < ops.size) (hrd : ∀ j, bits ops i j = true → E j = true) : Dn ops (E1 E i) := by
  intro k j hk h1 h2
  unfold E1 at *
  simp only [Bool.or_eq_true, decide_eq_true_eq] at h1 ⊢
  rcases h1 with h1 | rfl
  · exact Or.inl (hE k j hk h1 h2)
  · exact Or.inl (hrd j h2)

theorem Inv.usedN (I : Inv P ops sz lk F S V φ w0 df E φ' a w) (d : DC P R lk sz ops F S M V) (hi : i < ops.size) (hi' : E i = false) : Fresh φ' (S i).nx (S (i + 1)).nx := by
  intro id h1 h2
  cases hp : φ' id with
  | none => rfl
  | some im =>
    have h0 := d.mono (j := 0) (k := i) (Nat.zero_le _) (by omega)
    have hn := d.mono (j := i + 1) (k := ops.size) (by omega) (Nat.le_refl _)
    have := I.used id (by omega) (by omega) (by rw [hp]; simp)
    rw [d.ownK hi h1 h2, hi'] at this; cases this

theorem Inv.side (I : Inv P ops sz lk F S V φ w0 df E φ' a w) (d : DC P R lk sz ops F S M V) (hi : i < ops.size) (hi' : E i = false) (hrd : ∀ j, bits ops i j = true → E j = true) (hb : lbar ops i = false)
    {s0 s1 : HS} {φ2 : Inj} {a2 : Act} {w2 : World} (e0 : s0.nx = (S i).nx) (e1 : s1.nx = (S (i + 1)).nx) (h0 : ∀ id, s0.hp.get id ≠ none → id < (S i).nx)
    (hnew : ∀ id, (S i).nx ≤ id → (S (i + 1)).hp.get id = s1.hp.get id) (p : Post P φ' (S i).nx s0 w φ2 s1 w2) (hf : FrR φ2 sz (wrT (F 0) ops V (E1 E i) ops.size) a2.tmps) (hd : a2.defers = a.defers) :
    Inv P ops sz lk F S V φ w0 df (E1 E i) φ2 a2 w2 := by
  have side := hS_side d I.dn hi hi' hb
  have m0i := d.mono (j := 0) (k := i) (Nat.zero_le _) (by omega)
  have min := d.mono (j := i + 1) (k := ops.size) (by omega) (Nat.le_refl _)
  have mii := d.mono (j := i) (k := i + 1) (by omega) (by omega)
  have still : ∀ r, r < w.heap.size → w2.heap[r]? = w.heap[r]? := fun r hr => p.frame r hr fun id im h1 h2 _ => by have := h0 id h2.ne; omega
  have fresh := I.usedN d hi hi'
  have outs : ∀ id, ¬ ((S i).nx ≤ id ∧ id < (S (i + 1)).nx) → φ2 id = φ' id := fun id h => p.out id (by rw [e0, e1]; omega)
  have newb : ∀ id im, (S i).nx ≤ id → s1.hp.get id ≠ none → φ2 id = some im → w.heap.size ≤ im.blk := fun id im h1 h2 h3 => by
    rcases p.news id im (by rw [e0]; exact h1) h2 h3 with h | ⟨i0, m0, a1, b1, _⟩
    · exact h
    · have := h0 i0 b1.ne; omega
  have old : ∀ id o im, hS ops S E id = some o → φ' id = some im → im.blk < w.heap.size := fun id o im h1 h2 => by
    obtain ⟨im', h3, h4⟩ := I.rel.obj id o h1
    rw [h2] at h3; cases h3
    have : ∃ x, w.heap[im.blk]? = some x := by
      cases o with
      | cells wr e cs => obtain ⟨_, c, fz, h1, _⟩ := h4; exact ⟨_, h1⟩
      | map es => obtain ⟨es', clock, h1, _⟩ := h4; exact ⟨_, h1⟩
      | loop L => obtain ⟨r, h1, _⟩ := h4; exact ⟨_, h1⟩
    obtain ⟨x, hx⟩ := this
    exact (Array.getElem?_eq_some_iff.1 hx).1
  refine ⟨I.dn.more hi hrd, I.ext.trans p.ext, fun id h => ?_, fun id h1 h2 h3 => ?_, ⟨fun id o h => ?_, fun x y ox oy mx my hx hy hmx hmy hne hwr => ?_, fun id o h => hS_lt d (E := E1 E i) (by rw [h]; simp), fun g hg => ?_, I.rel.nxg⟩,
    fun id h1 h2 => ?_, fun id h1 h2 => ?_, fun id L h => ?_, p.os.trans I.os, p.tape.trans I.tape, p.output.trans I.output, Nat.le_trans I.drawn p.drawn, Nat.le_trans I.size p.size, fun r hr hno => ?_, fun id im h1 h2 h3 => ?_, hf, hd.trans I.dfs⟩
  · rw [outs id (by omega)]; exact I.out id h
  · by_cases hc : (S i).nx ≤ id ∧ id < (S (i + 1)).nx
    · rw [d.ownK hi hc.1 hc.2]; simp [E1]
    · rw [outs id hc] at h3
      have := I.used id h1 h2 h3
      simp [E1, this]
  · rw [side] at h
    split at h
    · rename_i hc
      rw [hnew id hc.1] at h
      exact p.rel.obj id o h
    · obtain ⟨im, h1, h2⟩ := I.rel.obj id o h
      refine ⟨im, p.ext _ _ h1, ?_⟩
      rw [still _ (old id o im h h1)]
      exact h2.mono p.ext
  · rw [side] at hx hy
    split at hx
    · rename_i cx
      rw [hnew x cx.1] at hx
      split at hy
      · rename_i cy
        rw [hnew y cy.1] at hy
        exact p.rel.inj x y ox oy mx my hx hy hmx hmy hne hwr
      · rename_i cy
        rw [outs y cy] at hmy
        have := old y oy my hy hmy
        have := newb x mx cx.1 (by rw [hx]; simp) hmx
        omega
    · rename_i cx
      rw [outs x cx] at hmx
      split at hy
      · rename_i cy
        rw [hnew y cy.1] at hy
        have := old x ox mx hx hmx
        have := newb y my cy.1 (by rw [hy]; simp) hmy
        omega
      · rename_i cy
        rw [outs y cy] at hmy
        exact I.rel.inj x y ox oy mx my hx hy hmx hmy hne hwr
  · obtain ⟨im, h1, h2⟩ := I.rel.glob g hg
    exact ⟨im, p.ext _ _ h1, h2⟩
  · rw [side, if_neg (by omega)] at h2; exact I.live id h1 h2
  · exact I.livw id h1 (h2.of_eq (by rw [side, if_neg (by omega)]))
  · obtain ⟨L', h'⟩ := I.keep id L h
    have hid := d.b0 id (by rw [h]; simp)
    refine ⟨L', ?_⟩
    rw [side, if_neg (by omega)]; exact h'
  · rw [still r (by have := I.size; omega)]; exact I.frame r hr hno
  · rw [side] at h2
    split at h2
    · rename_i hc
      rw [hnew id hc.1] at h2
      have := newb id im hc.1 h2 h3
      exact Or.inl (Nat.le_trans I.size this)
    · rename_i hc
      rw [outs id hc] at h3
      exact I.news id im h1 h2 h3

theorem Inv.bar (I : Inv P ops sz lk F S V φ w0 df E φ' a w) (d : DC P R lk sz ops F S M V) (hi : i < ops.size) (hrd : ∀ j, bits ops i j = true → E j = true)
    {s0 s1 : HS} {φ2 : Inj} {a2 : Act} {w2 : World} (e0 : s0.nx = (S i).nx) (e1 : s1.nx = (S (i + 1)).nx) (g0 : ∀ id, s0.hp.get id = hS ops S E id) (g1 : ∀ id, s1.hp.get id = hS ops S (E1 E i) id)
    (p : Post P φ' lk s0 w φ2 s1 w2) (hf : FrR φ2 sz (wrT (F 0) ops V (E1 E i) ops.size) a2.tmps) (hd : a2.defers = a.defers) :
    Inv P ops sz lk F S V φ w0 df (E1 E i) φ2 a2 w2 := by
  have m0i := d.mono (j := 0) (k := i) (Nat.zero_le _) (by omega)
  have min := d.mono (j := i + 1) (k := ops.size) (by omega) (Nat.le_refl _)
  have mii := d.mono (j := i) (k := i + 1) (by omega) (by omega)
  have outs : ∀ id, ¬ ((S i).nx ≤ id ∧ id < (S (i + 1)).nx) → φ2 id = φ' id := fun id h => p.out id (by rw [e0, e1]; omega)
  refine ⟨I.dn.more hi hrd, I.ext.trans p.ext, fun id h => ?_, fun id h1 h2 h3 => ?_, p.rel.sub (fun id o h => ⟨hS_lt d (E := E1 E i) (by rw [h]; simp), by rw [g1]; exact h⟩) I.rel.nxg,
    fun id h1 h2 => ?_, fun id h1 h2 => ?_, fun id L h => ?_, p.os.trans I.os, p.tape.trans I.tape, p.output.trans I.output, Nat.le_trans I.drawn p.drawn, Nat.le_trans I.size p.size, fun r hr hno => ?_, fun id im h1 h2 h3 => ?_, hf, hd.trans I.dfs⟩
  · rw [outs id (by omega)]; exact I.out id h
  · by_cases hc : (S i).nx ≤ id ∧ id < (S (i + 1)).nx
    · rw [d.ownK hi hc.1 hc.2]; simp [E1]
    · rw [outs id hc] at h3
      have := I.used id h1 h2 h3
      simp [E1, this]
  · rw [← g1] at h2
    have := p.live id (by omega) h2
    rw [g0] at this
    exact I.live id h1 this
  · have := p.livw id (by omega) (h2.of_eq (g1 id).symm)
    exact I.livw id h1 (this.of_eq (g0 id))
  · obtain ⟨L', h'⟩ := I.keep id L h
    rw [← g0] at h'
    obtain ⟨L2, h2⟩ := p.keep id L' h'
    exact ⟨L2, by rw [← g1]; exact h2⟩
  · refine (p.frame r (by have := I.size; omega) fun id im h1 h2 h3 => ?_).trans (I.frame r hr hno)
    have h2 := h2.of_eq (g0 id)
    by_cases hid : id < (S 0).nx
    · exact hno id im h1 (I.livw id hid h2) (by rw [← I.out id (Or.inl hid)]; exact h3)
    · rcases I.news id im (by omega) h2.ne h3 with h | ⟨i0, m0, a1, b1, c1, d1⟩
      · omega
      · rw [← d1]; exact hno i0 m0 a1 b1 c1
  · rw [← g1] at h2
    by_cases hid : id < (S i).nx
    · have h4 := p.live id (by omega) h2
      rw [g0] at h4
      exact I.news id im h1 h4 (by rw [← outs id (by omega)]; exact h3)
    · rcases p.news id im (by omega) h2 h3 with h | ⟨i0, m0, a1, b1, c1, d1⟩
      · exact Or.inl (Nat.le_trans I.size h)
      · have b1 := b1.of_eq (g0 i0)
        by_cases hi0 : i0 < (S 0).nx
        · exact Or.inr ⟨i0, m0, a1, I.livw i0 hi0 b1, by rw [← I.out i0 (Or.inl hi0)]; exact c1, d1⟩
        · rcases I.news i0 m0 (by omega) b1.ne c1 with h | ⟨i1, m1, a2, b2, c2, d2⟩
          · exact Or.inl (by rw [← d1]; exact h)
          · exact Or.inr ⟨i1, m1, a2, b2, c2, d2.trans d1⟩

/-! ### Frames -/
theorem DC.frames (d : DC P R lk sz ops F S M V) : ∀ k, k ≤ ops.size → F k = wrT (F 0) ops V (fun _ => true) k := by
  intro k
  induction k with
  | zero => intro _; rfl
  | succ k ih =>
    intro hk
    have h := (d.at (Array.getElem?_eq_getElem (show k < ops.size by omega)))
    obtain ⟨_, _, h2, _⟩ := h
    simp only [wrT, dstOf]
    rw [Array.getElem?_eq_getElem (show k < ops.size by omega)]
    simp only [Option.bind_some]
    rw [← ih (by omega)]
    unfold setA at h2
    split at h2
    · rename_i hdst; rw [hdst]; simp only [Option.some.injEq] at h2; exact h2.symm
    · rename_i t hdst
      rw [hdst]
      split at h2
      · simp only [Option.some.injEq] at h2; exact h2.symm
      · cases h2

theorem DC.looks (d : DC P R lk sz ops F S M V) (hE : Dn ops E) (hi : i < ops.size) (hi' : E i = false) (hrd : ∀ j, bits ops i j = true → E j = true) {t : Nat} (ht : t ∈ (ops[i]'hi).looksAt ops) :
    (F i).get t = (wrT (F 0) ops V E ops.size).get t := by
  rw [d.frames i (by omega), ← wrT_lt (f0 := F 0) (ops := ops) (V := V) (i := i) ops.size (by omega)]
  refine wrT_agree _ fun j hj hdj => ?_
  have hoj : ops[j]? = some (ops[j]'hj) := Array.getElem?_eq_getElem hj
  have hdj' : (ops[j]'hj).dst = some t := by unfold dstOf at hdj; rw [hoj] at hdj; exact hdj
  rcases Nat.lt_trichotomy j i with h | h | h
  · rw [decide_eq_true h]
    cases hEj : E j with
    | true => rfl
    | false =>
      have hb : bits ops i j = false := by
        cases hb : bits ops i j with
        | false => rfl
        | true => have := hrd j hb; rw [hEj] at this; cases this
      have := (Oper.apart_spec (d.apart h hoj (Array.getElem?_eq_getElem hi) hb)).1 t hdj'
      exact absurd ht this
  · subst h; rw [hi']; simp
  · rw [decide_eq_false (by omega)]
    cases hEj : E j with
    | false => rfl
    | true =>
      have hb : bits ops j i = false := by
        cases hb : bits ops j i with
        | false => rfl
        | true => have := hE _ _ hj hEj hb; rw [hi'] at this; cases this
      have := (Oper.apart_spec (d.apart h (Array.getElem?_eq_getElem hi) hoj hb)).2.2 t hdj'
      exact absurd ht this

theorem DC.put1 (d : DC P R lk sz ops F S M V) (hE : Dn ops E) (hi : i < ops.size) (hi' : E i = false) {fr2 : Fr} (h : setA sz (wrT (F 0) ops V E ops.size) (ops[i]'hi).dst (V i) = some fr2) (t : Nat) :
    (wrT (F 0) ops V (E1 E i) ops.size).get t = fr2.get t := by
  have hoi : ops[i]? = some (ops[i]'hi) := Array.getElem?_eq_getElem hi
  have hm := wrT_more (f0 := F 0) (ops := ops) (V := V) (E := E) (i := i) (t := t) ops.size hi hi' (fun j h1 h2 dd e1 e2 => by
    have hoj : ops[j]? = some (ops[j]'h2) := Array.getElem?_eq_getElem h2
    cases hEj : E j with
    | false => rfl
    | true =>
      have hb : bits ops j i = false := by
        cases hb : bits ops j i with
        | false => rfl
        | true => have := hE _ _ h2 hEj hb; rw [hi'] at this; cases this
      have e1' : (ops[i]'hi).dst = some dd := by unfold dstOf at e1; rw [hoi] at e1; exact e1
      have e2' : (ops[j]'h2).dst = some dd := by unfold dstOf at e2; rw [hoj] at e2; exact e2
      exact absurd e2' ((Oper.apart_spec (d.apart h1 hoi hoj hb)).2.1 dd e1'))
  show (wrT (F 0) ops V (fun j => E j || decide (j = i)) ops.size).get t = _
  rw [hm]
  have hdst : dstOf ops i = (ops[i]'hi).dst := by unfold dstOf; rw [hoi]; rfl
  rw [hdst]
  unfold setA at h
  split at h
  · rename_i hd; rw [hd]; cases h; simp
  · rename_i u hd
    rw [hd]
    split at h
    · cases h
      rw [T.get_put]
      by_cases hu : t = u
      · subst hu; simp
      · rw [if_neg hu, if_neg (fun e => hu (by cases e; rfl))]
    · cases h

theorem DC.canSet (d : DC P R lk sz ops F S M V) (hi : i < ops.size) (f : Fr) : ∃ fr2, setA sz f (ops[i]'hi).dst (V i) = some fr2 := by
  obtain ⟨_, _, h2, _⟩ := d.at (Array.getElem?_eq_getElem hi)
  unfold setA at *
  split at h2
  · exact ⟨_, rfl⟩
  · split at h2
    · rename_i ht; exact ⟨_, if_pos ht⟩
    · cases h2

/-- One operation, whenever it is its turn. -/
theorem Inv.step (hR : RecOK P R) (I : Inv P ops sz lk F S V φ w0 df E φ' a w) (d : DC P R lk sz ops F S M V) (hi : i < ops.size) (hi' : E i = false) (hrd : ∀ j, bits ops i j = true → E j = true)
    (hg : P.globals.size ≤ (S 0).nx) {n : Nat} {K : Act → World → Prop} {Q : Exit → Act → World → Prop} (hk : ∀ φ2 a2 w2, Inv P ops sz lk F S V φ w0 df (E1 E i) φ2 a2 w2 → K a2 w2) : wpOpIn (Fn ro) n P ops Q i K a w := by
  have hoi : ops[i]? = some (ops[i]'hi) := Array.getElem?_eq_getElem hi
  have fresh := I.usedN d hi hi'
  have m0i := d.mono (j := 0) (k := i) (Nat.zero_le _) (by omega)
  have min := d.mono (j := i) (k := ops.size) (by omega) (Nat.le_refl _)
  obtain ⟨fr2, hset⟩ := d.canSet hi (wrT (F 0) ops V E ops.size)
  have hput := d.put1 I.dn hi hi' hset
  have step : ∀ lk2 s2 s3, stepV P R lk2 ops.toList (F i) s2 (ops[i]'hi) = some (V i, s3) → stepA P R lk2 sz ops.toList (wrT (F 0) ops V E ops.size) s2 (ops[i]'hi) = some (fr2, s3) := fun lk2 s2 s3 h => by
    rw [stepV_congr (fr2 := wrT (F 0) ops V E ops.size) (fun t ht => d.looks I.dn hi hi' hrd ht)] at h
    rw [stepA_eq, h]; simp only [Option.bind_some]; rw [hset]; rfl
  cases hl : loudK ops i with
  | false =>
    obtain ⟨q1, q2⟩ := d.quiet hi hl
    have hlb : lbar ops i = false := by unfold lbar; rw [hl]; rfl
    cases hqt : quietK ops i with
    | false =>
      have q3 := d.pureV hi hl hqt
      have hh : HR P φ' ⟨T.nil, (S i).nx⟩ w := I.rel.sub (fun id o h => by cases h) (Nat.le_trans hg m0i)
      refine stepA_sound (lk' := (S i).nx) hR hoi hh I.frm (Nat.le_refl _) (by rw [q1] at fresh; exact fresh) (step (S i).nx ⟨T.nil, (S i).nx⟩ _ (q3 _ _)) fun v v' φ2 w2 hv p hf _ => ?_
      refine hk φ2 _ w2 (I.side (s0 := ⟨T.nil, (S i).nx⟩) (s1 := ⟨T.nil, (S i).nx⟩) d hi hi' hrd hlb rfl q1.symm (fun id h => absurd rfl h) (fun id h => ?_) p (hf.congr hput) (put_defers _ _ _))
      rw [q2]
      cases hs : (S i).hp.get id with
      | none => rfl
      | some o => have := d.bnd (k := i) (by omega) id (by rw [hs]; simp); omega
    | true =>
      obtain ⟨b, hlb2, hb0, hne, q3⟩ := d.quietV hi hqt
      have hsame := hS_quiet d I.dn hi hqt hi' hrd hlb2 hb0
      have hg0 : ∀ id, ((T.nil : T AObj).put b ((S i).hp.get b)).get id = if id = b then (S i).hp.get b else none := fun id => by rw [T.get_put]; rfl
      have hh : HR P φ' ⟨(T.nil : T AObj).put b ((S i).hp.get b), (S i).nx⟩ w := I.rel.sub (fun id o h => by
        simp only at h
        rw [hg0] at h
        split at h
        · rename_i e; subst e; exact ⟨Nat.lt_of_lt_of_le hb0 m0i, by rw [hsame]; exact h⟩
        · cases h) (Nat.le_trans hg m0i)
      refine stepA_sound (lk' := (S i).nx) hR hoi hh I.frm (Nat.le_refl _) (by rw [q1] at fresh; exact fresh) (step (S i).nx _ _ (q3 _ _ (by rw [hg0, if_pos rfl]))) fun v v' φ2 w2 hv p hf _ => ?_
      refine hk φ2 _ w2 (I.side (s0 := ⟨(T.nil : T AObj).put b ((S i).hp.get b), (S i).nx⟩) (s1 := ⟨(T.nil : T AObj).put b ((S i).hp.get b), (S i).nx⟩) d hi hi' hrd hlb rfl q1.symm (fun id h => ?_) (fun id h => ?_) p (hf.congr hput) (put_defers _ _ _))
      · simp only at h
        rw [hg0] at h
        split at h
        · rename_i e; rw [e]; exact Nat.lt_of_lt_of_le hb0 m0i
        · exact absurd rfl h
      · rw [q2]
        show _ = ((T.nil : T AObj).put b ((S i).hp.get b)).get id
        rw [hg0, if_neg (by omega)]
        cases hs : (S i).hp.get id with
        | none => rfl
        | some o => have := d.bnd (k := i) (by omega) id (by rw [hs]; simp); omega
  | true =>
    obtain ⟨s1, h1, h2, h3, _⟩ := d.at hoi
    have e1 : s1.nx = (S (i + 1)).nx := by rw [h3, unh_nx]
    cases hbar : barK ops i with
    | false =>
      have hlb : lbar ops i = false := by unfold lbar; rw [hbar]; simp
      rw [hbar] at h1
      simp only [Bool.false_eq_true, if_false] at h1
      have hsee := fun id o h => d.sees (id := id) (o := o) I.dn hi hl hi' hrd h
      have hh : HR P φ' (hid (S i) (badOf (M i) (rowK ops i))) w := by
        show HRF _ _ _ (hid (S i) _).nx _
        rw [hid_nx]
        exact I.rel.sub hsee (Nat.le_trans hg m0i)
      refine stepA_sound (lk' := (S i).nx) hR hoi hh I.frm (by rw [hid_nx]; exact Nat.le_refl _) (by rw [hid_nx, e1]; exact fresh) (step _ _ _ h1) fun v v' φ2 w2 hv p hf _ => ?_
      refine hk φ2 _ w2 (I.side d hi hi' hrd hlb (hid_nx _ _) e1 (fun id h => ?_) (fun id h => ?_) p (hf.congr hput) (put_defers _ _ _))
      · obtain ⟨o, ho⟩ := Option.ne_none_iff_exists'.1 h
        exact (hsee id o ho).1
      · rw [h3, unh_get]
        split
        · rename_i hb
          rcases d.inBad hi hb with ⟨k, k1, k2, k3, k4, k5⟩ | ⟨k1, _⟩
          · have := d.mono (j := k + 1) (k := i) (by omega) (by omega)
            omega
          · rw [hbar] at k1; cases k1
        · rfl
    | true =>
      have hlb : lbar ops i = true := by unfold lbar; rw [hl, hbar]; rfl
      rw [hbar] at h1
      simp only [if_true] at h1
      have hb := fun id => hS_bar d I.dn hi hlb hi' hrd id
      have hfull : HR P φ' (S i) w := I.rel.sub (fun id o h => ⟨d.bnd (k := i) (by omega) id (by rw [h]; simp), by rw [← (hb id).1]; exact h⟩) (Nat.le_trans hg m0i)
      have hold : ∀ id, Go.Ev.inBad (badOf (M i) (rowK ops i)) id = true → id < (S i).nx := fun id h => by
        rcases d.inBad hi h with ⟨k, k1, k2, k3, k4, k5⟩ | ⟨_, k1⟩
        · have := d.mono (j := k + 1) (k := i) (by omega) (by omega)
          omega
        · omega
      have hh : HR P φ' (hid (S i) (badOf (M i) (rowK ops i))) w := by
        show HRF _ _ _ (hid (S i) _).nx _
        rw [hid_nx]
        refine hfull.sub (fun id o h => ?_) hfull.nxg
        rw [hid_get] at h
        split at h
        · cases h
        · exact ⟨d.bnd (k := i) (by omega) id (by rw [h]; simp), h⟩
      refine stepA_sound (lk' := lk) hR hoi hh I.frm (by rw [hid_nx]; exact Nat.le_trans d.l0 m0i) (by rw [hid_nx, e1]; exact fresh) (step _ _ _ h1) fun v v' φ2 w2 hv p hf _ => ?_
      have p2 := p.unhide hfull hold
      rw [← h3] at p2
      exact hk φ2 _ w2 (I.bar d hi hrd rfl rfl (fun id => (hb id).1) (fun id => (hb id).2) p2 (hf.congr hput) (put_defers _ _ _))

/-! ### How many are left -/
def left (E : Nat → Bool) : Nat → Nat
  | 0 => 0
  | k + 1 => (if E k then 0 else 1) + left E k
theorem left_le (E : Nat → Bool) : ∀ n, left E n ≤ n := by
  intro n
  induction n with
  | zero => exact Nat.le_refl _
  | succ n ih => simp only [left]; split <;> omega
theorem left_zero {E : Nat → Bool} : ∀ n, left E n = 0 → ∀ j, j < n → E j = true := by
  intro n
  induction n with
  | zero => intro _ j h; omega
  | succ n ih =>
    intro h j hj
    simp only [left] at h
    by_cases hE : E n = true
    · rw [if_pos hE] at h
      by_cases hjn : j = n
      · subst hjn; exact hE
      · exact ih (by omega) j (by omega)
    · rw [if_neg hE] at h; omega
theorem left_more {E : Nat → Bool} {i : Nat} (hi' : E i = false) : ∀ n, i < n → left (E1 E i) n + 1 = left E n := by
  intro n
  induction n with
  | zero => intro h; omega
  | succ n ih =>
    intro h
    simp only [left]
    by_cases hin : i = n
    · subst hin
      rw [hi']
      have : ∀ k, k ≤ i → left (E1 E i) k = left E k := by
        intro k
        induction k with
        | zero => intro _; rfl
        | succ k ihk =>
          intro hk
          simp only [left]
          rw [ihk (by omega)]
          simp [E1, show k ≠ i by omega]
      rw [this i (Nat.le_refl _)]
      simp [E1]; omega
    · have := ih (by omega)
      simp only [E1, show n ≠ i from fun e => hin e.symm, decide_false, Bool.or_false] at this ⊢
      omega

theorem Inv.all (hR : RecOK P R) (d : DC P R lk sz ops F S M V) (hg : P.globals.size ≤ (S 0).nx) {n : Nat} {Q : Exit → Act → World → Prop}
    (hq : ∀ E φ' a w, Inv P ops sz lk F S V φ w0 df E φ' a w → (∀ j, j < ops.size → E j = true) → Q .normal a w) :
    ∀ (fuel : Nat) (listed : Array Bool) (φ' : Inj) (a : Act) (w : World), listed.size = ops.size → left (fun j => listed.getD j false) ops.size ≤ fuel →
      Inv P ops sz lk F S V φ w0 df (fun j => listed.getD j false) φ' a w → wpAnyIn (Fn ro) n P .any ops Q fuel listed a w := by
  have ends : ∀ (listed : Array Bool), listed.size = ops.size → Region.ready .any ops listed = [] → ∀ j, j < ops.size → listed.getD j false = true := by
    intro listed hs h0 j
    induction j using Nat.strongRecOn with
    | _ j ih =>
      intro hj
      cases hj' : listed.getD j false with
      | true => rfl
      | false =>
        have : j ∈ Region.ready .any ops listed := by
          rw [mem_ready]
          refine ⟨?_, _, Array.getElem?_eq_getElem hj, fun e he hb => ?_⟩
          · simp only [Array.getD_eq_getD_getElem?] at hj' ⊢
            rw [Array.getElem?_eq_getElem (by omega)] at hj' ⊢
            exact hj'
          · have hlt := d.edges (Array.getElem?_eq_getElem hj) e he hb
            exact ih e.on hlt (by omega)
        rw [h0] at this; cases this
  intro fuel
  induction fuel with
  | zero =>
    intro listed φ' a w hs hl I
    have hall := left_zero _ (Nat.le_zero.1 hl)
    refine ⟨?_, hq _ φ' a w I hall⟩
    cases hr : Region.ready .any ops listed with
    | nil => rfl
    | cons x xs =>
      have : x ∈ Region.ready .any ops listed := by rw [hr]; simp
      obtain ⟨h1, o, ho, _⟩ := mem_ready.1 this
      have hx := (Array.getElem?_eq_some_iff.1 ho).1
      have h2 := hall x hx
      simp only [Array.getD_eq_getD_getElem?] at h1 h2
      rw [Array.getElem?_eq_getElem (by omega)] at h1 h2
      simp_all
  | succ fuel ih =>
    intro listed φ' a w hs hl I
    refine ⟨fun h0 => hq _ φ' a w I (ends listed hs h0), fun i hi => ?_⟩
    obtain ⟨h1, o, ho, hall⟩ := mem_ready.1 hi
    have hlt := (Array.getElem?_eq_some_iff.1 ho).1
    have hi' : listed.getD i false = false := by
      simp only [Array.getD_eq_getD_getElem?] at h1 ⊢
      rw [Array.getElem?_eq_getElem (by omega)] at h1 ⊢
      exact h1
    have hrd : ∀ j, bits ops i j = true → listed.getD j false = true := fun j hj => by
      obtain ⟨e, e1, e2, e3, e4⟩ := d.bit_inv ho hj
      have h5 := hall e e1 e2
      rcases e4 with e4 | e4
      · rw [← e4]; exact h5
      · exact I.dn e.on j (by omega) h5 e4
    refine I.step hR d hlt hi' hrd hg fun φ2 a2 w2 I2 => ?_
    have he : (fun j => (listed.setIfInBounds i true).getD j false) = E1 (fun j => listed.getD j false) i := by
      funext j
      simp only [E1, Array.getD_eq_getD_getElem?]
      by_cases hj : j = i
      · subst hj; rw [Array.getElem?_setIfInBounds_self_of_lt (by omega)]; simp
      · rw [Array.getElem?_setIfInBounds_ne (Ne.symm hj)]; simp [hj]
    refine ih (listed.setIfInBounds i true) φ2 a2 w2 (by simpa using hs) ?_ (by rw [he]; exact I2)
    rw [he]
    have := left_more (E := fun j => listed.getD j false) hi' ops.size hlt
    omega
end

variable {fr : Fr} {s : HS} {a : Act} {w : World}
theorem drawA_sound (hR : RecOK P R) (hab : AbR R) (hmix : P.follows .mixedOrders = true) {n id : Nat} {ops : Array Oper} {pl : List PlanRow} {fr' : Fr} {s' : HS} {Q : Exit → Act → World → Prop}
    (hpl : planA ops = some pl) (h : drawA P R lk sz ops.toList ops.toList pl 0 [] fr s = some (fr', s')) (c : Cx P φ sz lk B ro fr s a w) (hfr : Fresh φ s.nx s'.nx)
    (hq : ∀ a' w' φ', Post P φ lk s w φ' s' w' → Cx P φ' sz lk B ro fr' s' a' w' → Q .normal a' w') : (Code.region id ops true).wpIn (Fn ro) n P Q a w := by
  have hok : drawOk ops = true := by
    cases hc : drawOk ops with
    | true => rfl
    | false => unfold planA at hpl; rw [hc] at hpl; cases hpl
  unfold planA at hpl
  rw [if_pos hok] at hpl
  simp only [Option.some.injEq] at hpl
  obtain ⟨F, S, M, V, e1, e2, e3, e4, e5, tr⟩ := draw_trace (P := P) (R := R) (lk := lk) (sz := sz) (ops := ops) (pl := pl) ops.toList pl 0 [] fr fr' s s' rfl rfl h
  subst e1 e2
  have hsz : 0 + ops.toList.length = ops.size := by simp
  rw [hsz] at e4 e5
  subst e4 e5
  have d : DC P R lk sz ops F S M V := ⟨by rw [hpl]; exact tr, hok, hab, fun j hj => by obtain ⟨o, ho⟩ := Option.ne_none_iff_exists'.1 hj; exact c.hr.bnd j o ho, c.lk, e3⟩
  have m0n := d.mono (j := 0) (k := ops.size) (Nat.zero_le _) (Nat.le_refl _)
  refine wpIn_region_any hmix ?_
  have hE0 : (fun j => (Array.replicate ops.size false).getD j false) = fun _ => false := by
    funext j
    simp only [Array.getD_eq_getD_getElem?, Array.getElem?_replicate]
    split <;> rfl
  have hb0 : bet ops (fun _ => false) ops.size = 0 := by
    rcases (bet_spec ops (fun _ => false) ops.size).2.1 with h | h
    · exact h
    · cases h.1
  have h00 : ∀ id, hS ops S (fun _ => false) id = (S 0).hp.get id := fun id => by
    unfold hS
    rw [hb0]
    split
    · rfl
    · rename_i hlt
      rw [if_neg (by simp)]
      cases hs : (S 0).hp.get id with
      | none => rfl
      | some o => exact absurd (c.hr.bnd id o hs) hlt
  have I0 : Inv P ops sz lk F S V φ w a.defers (fun _ => false) φ a { w with drawn := w.drawn + 1 } := by
    have hr := (c.hr.same (w' := { w with drawn := w.drawn + 1 }) rfl)
    refine ⟨(fun i j _ h _ => by cases h), Sub.refl _, fun _ _ => rfl, fun id h1 h2 h3 => absurd (hfr id h1 h2) h3, hr.sub (fun id o h => ?_) (Nat.le_trans c.hr.nxg m0n), fun id _ h => by rw [h00] at h; exact h, fun id _ h => h.of_eq (h00 id),
      fun id L h => ⟨L, by rw [h00]; exact h⟩, rfl, rfl, rfl, Nat.le_succ _, Nat.le_refl _, fun _ _ _ => rfl, fun id im h1 h2 _ => ?_, ?_, rfl⟩
    · rw [h00] at h; exact ⟨Nat.lt_of_lt_of_le (c.hr.bnd id o h) m0n, h⟩
    · rw [h00] at h2
      obtain ⟨o, ho⟩ := Option.ne_none_iff_exists'.1 h2
      have := c.hr.bnd id o ho; omega
    · refine FrR.congr (fun t => ?_) c.fr
      have h1 := wrT_agree (f0 := F 0) (ops := ops) (V := V) (E := fun _ => false) (E' := fun j => decide (j < 0)) (t := t) ops.size (fun j _ _ => by simp)
      rw [h1, wrT_lt ops.size (Nat.zero_le _)]; rfl
  refine Inv.all (φ := φ) (w0 := w) (df := a.defers) hR d (c.hr.nxg) (fun E φ' a' w' I hall => ?_) ops.size _ φ a _ (by simp) (left_le _ _) (by rw [hE0]; exact I0)
  -- all are carried out
  obtain ⟨b1, b2, b3⟩ := bet_spec ops E ops.size
  have hn : ∀ id, hS ops S E id = (S ops.size).hp.get id := fun id => by
    have nb : ∀ j, bet ops E ops.size ≤ j → j < ops.size → lbar ops j = false := fun j h1 h2 => by
      have := b3 j h1 h2
      rw [hall j h2, Bool.true_and] at this; exact this
    have h0β := d.mono (j := 0) (k := bet ops E ops.size) (Nat.zero_le _) b1
    unfold hS
    split
    · rename_i h1; rw [d.lockR b1 (Nat.le_refl _) nb h1]
    · rename_i h1
      by_cases hlt : id < (S ops.size).nx
      · obtain ⟨o1, o2, o3⟩ := d.ownS (id := id) (by omega) hlt
        rw [if_pos ⟨hlt, hall _ o1⟩]
        generalize own (NX S) id ops.size = k at *
        have hkβ : bet ops E ops.size ≤ k := by
          rcases Nat.lt_or_ge k (bet ops E ops.size) with a | a
          · have := d.mono (j := k + 1) (k := bet ops E ops.size) a (by omega); omega
          · exact a
        rw [d.lockR (k := k + 1) (m := ops.size) o1 (Nat.le_refl _) (fun j h1 h2 => nb j (by omega) h2) o3]
      · rw [if_neg (fun h => hlt h.1)]
        cases hs : (S ops.size).hp.get id with
        | none => rfl
        | some o => exact absurd (d.bnd (k := ops.size) (Nat.le_refl _) id (by rw [hs]; simp)) hlt
  have p : Post P φ lk (S 0) w φ' (S ops.size) w' :=
    { ext := I.ext, out := I.out, nx := m0n, os := I.os, tape := I.tape, output := I.output, drawn := I.drawn, size := I.size, frame := I.frame
      rel := I.rel.sub (fun id o h => ⟨d.bnd (k := ops.size) (Nat.le_refl _) id (by rw [h]; simp), by rw [hn]; exact h⟩) I.rel.nxg
      live := fun id h1 h2 => I.live id h1 (by rw [hn]; exact h2)
      livw := fun id h1 h2 => I.livw id h1 (h2.of_eq (hn id).symm)
      lock := fun id h => (d.main ops.size (Nat.le_refl _)).2.2.2.2.2.1.lock d.l0 id h
      keep := fun id L h => by obtain ⟨L', h'⟩ := I.keep id L h; exact ⟨L', by rw [← hn]; exact h'⟩
      news := fun id im h1 h2 h3 => I.news id im h1 (by rw [hn]; exact h2) h3 }
  refine hq a' w' φ' p (c.post p (FrR.congr (fun t => ?_) I.frm) I.dfs)
  rw [d.frames ops.size (Nat.le_refl _)]
  exact wrT_agree _ (fun j hj _ => (hall j hj).symm)
end Go.Ev

/- Code carried out: the clean run and the model's, all of it. -/
namespace Go.Ev
open Go
variable {P : Program} {R : Rec} {φ : Inj} {sz lk B : Nat} {ro : Option Nat} {fr : Fr} {s : HS} {a : Act} {w : World}

/-! ### More on what a run may have done -/
/-- The model lays a block that the clean state does not know. -/
theorem Post.grow (H : HR P φ s w) (ob : Obj) : Post P φ lk s w φ s (w.alloc ob) := by
  have hget : ∀ k, k < w.heap.size → (w.alloc ob).heap[k]? = w.heap[k]? := fun k hk => by
    show (w.heap.push ob)[k]? = _
    rw [Array.getElem?_push, if_neg (by omega)]
  exact {
    ext := Sub.refl φ
    out := fun _ _ => rfl
    rel := {
      obj := fun id x hx => by
        obtain ⟨im, h1, h2⟩ := H.obj id x hx
        exact ⟨im, h1, by rw [hget _ (H.lt hx h1)]; exact h2⟩
      inj := H.inj
      bnd := H.bnd
      glob := H.glob
      nxg := H.nxg }
    nx := Nat.le_refl _
    live := fun _ _ h => h
    livw := fun _ _ h => h
    lock := fun _ _ => rfl
    keep := fun _ L h => ⟨L, h⟩
    os := rfl
    tape := rfl
    output := rfl
    drawn := Nat.le_refl _
    size := by simp
    frame := fun r hr _ => hget r hr
    news := fun id im a b _ => by
      obtain ⟨o, ho⟩ := Option.ne_none_iff_exists'.1 b
      have := H.bnd id o ho; omega }

/-- A block of the run's own is given up, and turned. -/
theorem Post.kill {φ' : Inj} {s' : HS} {w' : World} (H0 : HR P φ s w) (p : Post P φ lk s w φ' s' w') {id : Nat} {o : AObj} {im : Img} (hid : s.nx ≤ id) (hl : lk ≤ s.nx) (ho : s'.hp.get id = some o) (hw : wrO o = true) (hi : φ' id = some im) (ob : Obj) :
    Post P φ lk s w φ' { s' with hp := s'.hp.put id none } (setB w' im.blk ob) := by
  have H := p.rel
  have hne : ∀ j oj mj, j ≠ id → s'.hp.get j = some oj → φ' j = some mj → mj.blk ≠ im.blk := fun j oj mj hj h1 h2 => H.inj j id oj o mj im h1 ho h2 hi hj (Or.inr hw)
  exact {
    ext := p.ext
    out := p.out
    rel := {
      obj := fun j x hx => by
        simp only [T.get_put] at hx
        split at hx
        · cases hx
        · rename_i hj
          obtain ⟨m, h1, h2⟩ := H.obj j x hx
          exact ⟨m, h1, by rw [setB_other (hne j x m hj hx h1)]; exact h2⟩
      inj := (H.del id).inj
      bnd := (H.del id).bnd
      glob := H.glob
      nxg := H.nxg }
    nx := p.nx
    live := fun j hj h => p.live j hj (by
      simp only [T.get_put] at h
      rwa [if_neg (by omega)] at h)
    livw := fun j hj h => p.livw j hj (h.of_eq (T.get_put_ne _ _ _ (by omega)))
    lock := fun j hj => by
      show (s'.hp.put id none).get j = _
      rw [T.get_put_ne _ _ _ (by omega)]; exact p.lock j hj
    keep := fun j L e => by
      obtain ⟨L', e'⟩ := p.keep j L e
      have := H0.bnd j _ e
      exact ⟨L', by show (s'.hp.put id none).get j = _; rw [T.get_put_ne _ _ _ (by omega)]; exact e'⟩
    os := p.os
    tape := p.tape
    output := p.output
    drawn := p.drawn
    size := by simp [setB]; exact p.size
    frame := fun r hr hno => by
      have : r ≠ im.blk := fun e => by
        rcases p.news id im hid (by rw [ho]; simp) hi with h | ⟨i0, m0, h1, h2, h3, h4⟩
        · omega
        · exact hno i0 m0 h1 h2 h3 (h4.trans e.symm)
      rw [setB_other this]; exact p.frame r hr hno
    news := fun j m h1 h2 h3 => by
      simp only [T.get_put] at h2
      split at h2
      · simp at h2
      · exact p.news j m h1 h2 h3 }

/-! ### A function's end -/
theorem Post.shut {φ' : Inj} {s' : HS} {w' : World} (p : Post P φ lk s w φ' s' w') {r : Nat} (hr : w.heap.size ≤ r) (hno : ∀ id im, s'.hp.get id ≠ none → φ' id = some im → im.blk ≠ r) (ob : Obj) :
    Post P φ lk s w φ' s' (setB w' r ob) := by
  have H := p.rel
  exact {
    ext := p.ext
    out := p.out
    rel := {
      obj := fun j x hx => by
        obtain ⟨m, h1, h2⟩ := H.obj j x hx
        exact ⟨m, h1, by rw [setB_other (hno j m (by rw [hx]; simp) h1)]; exact h2⟩
      inj := H.inj
      bnd := H.bnd
      glob := H.glob
      nxg := H.nxg }
    nx := p.nx
    live := p.live
    livw := p.livw
    lock := p.lock
    keep := p.keep
    os := p.os
    tape := p.tape
    output := p.output
    drawn := p.drawn
    size := by simp [setB]; exact p.size
    frame := fun k hk hno' => by rw [setB_other (by omega)]; exact p.frame k hk hno'
    news := p.news }

theorem DefOK.shut {r : Nat} {ob : Obj} : ∀ {ds : List Deferred}, (∀ d ∈ ds, d.target ≠ .collected r) → DefOK φ s w B ds → DefOK φ s (setB w r ob) B ds
  | [], _, _ => trivial
  | d :: ds, hd, ⟨⟨q, h1, h2, h3, h4, h5⟩, h6⟩ => by
    have hq : q ≠ r := fun e => hd d (by simp) (by rw [h1, e])
    exact ⟨⟨q, h1, h2, by rw [setB_other hq]; exact h3, h4, h5⟩, DefOK.shut (fun d' hd' => hd d' (by simp [hd'])) h6⟩

def resSem (tmps : Array Value) : ResultVar → Sem Value
  | .tmp t => pure (tmps.getD t undef)
  | .cell a t => do loadVar t (← asAddr (tmps.getD a undef))

theorem results_eq (fn : Func) (tmps : Array Value) : results fn tmps = (do let vs ← fn.results.mapM (resSem tmps); pure (if h : vs.size = 1 then vs[0] else .tuple vs) : Sem Value) := by
  have e : (fun (r : ResultVar) => match r with | .tmp t => pure (tmps.getD t undef) | .cell a t => do loadVar t (← asAddr (tmps.getD a undef)) : ResultVar → Sem Value) = resSem tmps := by
    funext r; cases r <;> rfl
  rw [← e]; rfl

theorem resVar_sound (H : HR P φ s w) {tmps : Array Value} (F : FrR φ sz fr tmps) {r : ResultVar} {v : Value} (h1 : resA P fr s.hp r = some v) : ∃ v', VR φ v v' ∧ (resSem tmps r).run P w = .ok v' w := by
  cases r with
  | tmp t =>
    obtain ⟨v', e1, e2⟩ := F.2 t v h1
    exact ⟨v', e2, by simp [resSem, e1]⟩
  | cell a t =>
    simp only [resA] at h1
    obtain ⟨p, e1, e2⟩ := bind_inv h1
    obtain ⟨p', e3, e4⟩ := F.2 a p e1
    obtain ⟨v', e5, e6⟩ := loadV_sound H e4 e2
    refine ⟨v', e6, ?_⟩
    have hp : ∃ ad, p' = .pointer (some ad) := by
      unfold loadV at e2
      split at e2
      · cases e4; exact ⟨_, rfl⟩
      · cases e2
    obtain ⟨ad, rfl⟩ := hp
    simp only [resSem, Array.getD_eq_getD_getElem?, e3, Option.getD_some]
    simpa [Instr.loadAt, Instr.sureAddr, asAddr] using e5

theorem resA_sound (H : HR P φ s w) {tmps : Array Value} (F : FrR φ sz fr tmps) : ∀ {rs : List ResultVar} {vs : List Value}, omap (resA P fr s.hp) rs = some vs →
    ∃ vs', LR φ vs vs' ∧ (rs.mapM (resSem tmps)).run P w = .ok vs' w := by
  intro rs
  induction rs with
  | nil => intro vs h; simp only [omap, Option.some.injEq] at h; subst h; exact ⟨[], LR.nil φ, rfl⟩
  | cons r rs ih =>
    intro vs h
    simp only [omap] at h
    obtain ⟨v, h1, h2⟩ := bind_inv h
    obtain ⟨us, h3, h4⟩ := bind_inv h2
    cases h4
    obtain ⟨us', l1, r1⟩ := ih h3
    obtain ⟨v', k1, k2⟩ := resVar_sound H F h1
    refine ⟨v' :: us', LR.cons k1 l1, ?_⟩
    rw [List.mapM_cons]
    simp only [Sem.run_bind, k2, Result.andThen_ok, r1, Sem.run_pure]

theorem results_sound (H : HR P φ s w) {tmps : Array Value} (F : FrR φ sz fr tmps) {fn : Func} {vs : List Value} (h : omap (resA P fr s.hp) fn.results.toList = some vs) :
    ∃ v', (results fn tmps).run P w = .ok v' w ∧ VR φ (packR vs) v' := by
  obtain ⟨vs', l1, r1⟩ := resA_sound H F h
  rw [results_eq, Array.mapM_eq_mapM_toList]
  refine ⟨if h : vs'.toArray.size = 1 then vs'.toArray[0] else .tuple vs'.toArray, ?_, ?_⟩
  · simp only [Sem.run_bind, Sem.run_map, r1, Result.andThen_ok, Sem.run_pure]
  · match vs, l1 with
    | [], l1 => have := l1.nil_inv; subst this; exact VR.plain 1 _ rfl
    | [v], l1 =>
      obtain ⟨y, ys, rfl, h1, h2⟩ := l1.cons_inv
      have := h2.nil_inv; subst this
      exact h1
    | v1 :: v2 :: vs, l1 =>
      obtain ⟨y, ys, rfl, h1, h2⟩ := l1.cons_inv
      obtain ⟨z, zs, rfl, h3, h4⟩ := h2.cons_inv
      rw [dif_neg (by simp)]
      exact VR.tuple' l1

theorem leavesM {n : Nat} {fn : Func} {φ' : Inj} {s' : HS} {tmps : Array Value} {vs : List Value} {v : Value} (F : FrR φ' sz fr tmps) (hr : omap (resA P fr s'.hp) fn.results.toList = some vs)
    (hv : v = packR vs) : ∀ (ds : List Deferred) (w' : World), Post P φ lk s w φ' s' w' → DefOK φ' s' w' w.heap.size ds →
    LeavesInM (Fn ro) n P fn tmps (CPost P φ lk s w v s') ds .returning w' := by
  intro ds
  induction ds with
  | nil =>
    intro w' p _
    obtain ⟨v', h1, h2⟩ := results_sound p.rel F hr
    exact ⟨v', h1, v', φ', rfl, by rw [hv]; exact h2, p⟩
  | cons d ds ih =>
    intro w' p hd
    obtain ⟨⟨r, h1, h2, h3, h4, h5⟩, h6⟩ := hd
    refine ⟨by simp, Or.inl ⟨r, setB w' r (.deferred none), h1, run_takeDeferred h3, ?_⟩⟩
    exact ih _ (p.shut h2 h4 _) (DefOK.shut h5 h6)

/-! ### The parameters of a call -/
theorem get_paramsA : ∀ (vs : List Value) (fr : Fr) (i t : Nat), (paramsA fr vs i).get t = if i ≤ t ∧ t < i + vs.length then vs[t - i]? else fr.get t := by
  intro vs
  induction vs with
  | nil => intro fr i t; simp only [paramsA, List.length_nil]; rw [if_neg (by omega)]
  | cons v vs ih =>
    intro fr i t
    simp only [paramsA, List.length_cons]
    rw [ih]
    by_cases h1 : i + 1 ≤ t ∧ t < i + 1 + vs.length
    · rw [if_pos h1, if_pos (by omega), show t - i = (t - (i + 1)) + 1 by omega]; rfl
    · rw [if_neg h1, T.get_put]
      by_cases h2 : t = i
      · subst h2; rw [if_pos rfl, if_pos (by omega), Nat.sub_self]; rfl
      · rw [if_neg h2, if_neg (by omega)]

theorem params_rel {args args' : List Value} (h : LR φ args args') {n : Nat} (hn : args.length ≤ n) : FrR φ n (paramsA .nil args 0) (args'.toArray ++ Array.replicate (n - args'.toArray.size) undef) := by
  have hl := h.1
  refine ⟨by simp; omega, fun t v e => ?_⟩
  rw [get_paramsA] at e
  split at e
  · rename_i ht
    obtain ⟨v', h1, h2⟩ := h.get e
    refine ⟨v', ?_, h2⟩
    rw [Array.getElem?_append_left (by simp; omega)]
    simpa using h1
  · cases e

theorem parA_rel : ∀ {ps : List (Tmp × Value)} {ps' : List (Tmp × Value)} {fr fr' : Fr} {tmps : Array Value}, ps.length = ps'.length →
    (∀ (i : Nat) (t : Tmp) (v : Value), ps[i]? = some (t, v) → ∃ v', ps'[i]? = some (t, v') ∧ VR φ v v') → FrR φ sz fr tmps → parA fr sz ps = some fr' →
    FrR φ sz fr' (ps'.foldl (fun (tmps : Array Value) (p : Tmp × Value) => tmps.setIfInBounds p.1 p.2) tmps) := by
  intro ps
  induction ps with
  | nil =>
    intro ps' fr fr' tmps hl hr F h
    have : ps' = [] := List.length_eq_zero_iff.1 hl.symm
    subst this
    cases h; exact F
  | cons p ps ih =>
    intro ps' fr fr' tmps hl hr F h
    obtain ⟨t, v⟩ := p
    cases ps' with
    | nil => simp at hl
    | cons p' ps' =>
      obtain ⟨v', h1, h2⟩ := hr 0 t v rfl
      simp only [List.getElem?_cons_zero, Option.some.injEq] at h1; subst h1
      simp only [parA] at h
      split at h
      · rename_i ht
        exact ih (ps' := ps') (by simpa using hl) (fun i t v hi => hr (i + 1) t v hi) (F.put ht h2) h
      · cases h


/-! ### Code -/
theorem opsA_sound (hR : RecOK P R) (hm : MonoR R) {n : Nat} {ops : Array Oper} {Q : Exit → Act → World → Prop} : ∀ (os : List Oper) (k : Nat) (φ : Inj) (fr fr' : Fr) (s s' : HS) (a : Act) (w : World), ops.toList.drop k = os →
    Cx P φ sz lk B ro fr s a w → Fresh φ s.nx s'.nx → opsA P R lk sz ops.toList os fr s = some (fr', s') →
    (∀ a' w' φ', Post P φ lk s w φ' s' w' → Cx P φ' sz lk B ro fr' s' a' w' → Q .normal a' w') → wpOpsIn (Fn ro) n P ops Q (List.range' k os.length) a w := by
  intro os
  induction os with
  | nil => intro k φ fr fr' s s' a w _ c _ h hq; cases h; exact hq a w φ (Post.refl c.hr) c
  | cons o os ih =>
    intro k φ fr fr' s s' a w hd c hfr h hq
    obtain ⟨⟨fr1, s1⟩, h1, h2⟩ := bind_inv h
    have hn1 := stepA_nx hm h1
    have hn2 := opsA_nx hm h2
    have ho : ops[k]? = some o := by
      have : (ops.toList.drop k)[0]? = some o := by rw [hd]; rfl
      simpa using this
    simp only [List.length_cons, List.range'_succ]
    rw [wpOpsIn_cons]
    refine stepA_sound hR ho c.hr c.fr c.lk (hfr.left hn2) h1 (fun v v' φ1 w1 _ hp hf _ => ?_)
    have c1 : Cx P φ1 sz lk B ro fr1 s1 (a.put o.dst v') w1 := c.post hp hf (put_defers a o.dst v')
    refine ih (k + 1) φ1 fr1 fr' s1 s' _ w1 ?_ c1 (hfr.after hp) h2 (fun a' w' φ' p' c' => hq a' w' φ' (hp.trans p') c')
    rw [← List.drop_drop, hd]; rfl

def exitOf : Sig → Exit
  | .normal => .normal
  | .exit id => .exit id
  | .ret => .ret

theorem loop_put {φ : Inj} {s : HS} {w : World} (H : HR P φ s w) {l : Nat} {L L' : ALoop} {im : Img} {r' : Loop} (hl : lk ≤ l) (hg : s.hp.get l = some (.loop L)) (hi : φ l = some im) (hr : LoopR φ L' r') :
    Post P φ lk s w φ { s with hp := s.hp.put l (some (.loop L')) } (setB w im.blk (.loop r')) :=
  Post.set (o := .loop L') (ob := .loop r') H hl hg rfl hi ⟨r', rfl, hr⟩ (fun _ _ => ⟨L', rfl⟩)

theorem loop_get {φ : Inj} {s : HS} {w : World} (H : HR P φ s w) {l : Nat} {L : ALoop} {im : Img} (hg : s.hp.get l = some (.loop L)) (hi : φ l = some im) : ∃ r, w.heap[im.blk]? = some (.loop r) ∧ LoopR φ L r := by
  obtain ⟨im', e1, e2⟩ := H.obj _ _ hg
  rw [hi] at e1; cases e1
  exact e2

theorem loopAt_get {h : T AObj} {l : Nat} {L : ALoop} (e : loopAt h l = some L) : h.get l = some (.loop L) := by
  unfold loopAt at e
  split at e
  · cases e; assumption
  · cases e

theorem putObj_eq (w : World) (r : Nat) (o : Obj) : w.putObj r o = setB w r o := rfl

theorem DefOK.kill {id : Nat} {o : AObj} {im : Img} {ob : Obj} (ho : s.hp.get id = some o) (hi : φ id = some im) : ∀ {ds : List Deferred}, DefOK φ s w B ds → DefOK φ { s with hp := s.hp.put id none } (setB w im.blk ob) B ds
  | [], _ => trivial
  | d :: ds, ⟨⟨r, h1, h2, h3, h4, h5⟩, h6⟩ => by
    have hne := h4 id im (by rw [ho]; simp) hi
    refine ⟨⟨r, h1, h2, by rw [setB_other (Ne.symm hne)]; exact h3, fun j m hj hm => h4 j m ?_ hm, h5⟩, DefOK.kill ho hi h6⟩
    simp only [T.get_put] at hj
    split at hj
    · simp at hj
    · exact hj

def CodeOK (P : Program) (R : Rec) (c : Code) : Prop :=
  ∀ {lk sz : Nat} {fr : Fr} {s : HS} {sig : Sig} {fr' : Fr} {s' : HS}, codeA P R lk sz c fr s = some (sig, fr', s') → ∀ {φ : Inj} {a : Act} {w : World} {B : Nat} {ro : Option Nat} {Q : Exit → Act → World → Prop} (n : Nat),
    Cx P φ sz lk B ro fr s a w → B ≤ w.heap.size → Fresh φ s.nx s'.nx → (∀ a' w' φ', Post P φ lk s w φ' s' w' → Cx P φ' sz lk B ro fr' s' a' w' → Q (exitOf sig) a' w') → c.wpIn (Fn ro) n P Q a w

theorem codeA_sound (hR : RecOK P R) (hm : MonoR R) (hab : AbR R) (hmix : P.follows .mixedOrders = true) : ∀ c : Code, CodeOK P R c := by
  intro c
  induction c with
  | skip => intro lk sz fr s sig fr' s' h φ a w B ro Q n c _ _ hq; cases h; exact wpIn_skip (hq a w φ (Post.refl c.hr) c)
  | label l => intro lk sz fr s sig fr' s' h φ a w B ro Q n c _ _ hq; cases h; exact wpIn_label (hq a w φ (Post.refl c.hr) c)
  | region id ops draw =>
    intro lk sz fr s sig fr' s' h φ a w B ro Q n c hB hfr hq
    cases draw with
    | false =>
      obtain ⟨⟨f1, s1⟩, h1, h2⟩ := map_inv h
      simp only [Prod.mk.injEq] at h2
      obtain ⟨rfl, rfl, rfl⟩ := h2
      have := opsA_sound (Q := Q) (n := n) (ops := ops) hR hm ops.toList 0 φ fr f1 s s1 a w (by simp) c hfr h1 hq
      refine wpIn_region ?_
      rw [List.range_eq_range', ← Array.length_toList]; exact this
    | true =>
      obtain ⟨pl, h0, h⟩ := bind_inv h
      obtain ⟨⟨f1, s1⟩, h1, h2⟩ := map_inv h
      cases h2
      exact drawA_sound hR hab hmix h0 h1 c hfr hq
  | seq x y ihx ihy =>
    intro lk sz fr s sig fr' s' h φ a w B ro Q n c hB hfr hq
    obtain ⟨⟨sg, f1, s1⟩, h1, h2⟩ := bind_inv h
    have n1 := codeA_nx hm h1
    refine wpIn_seq ?_
    cases sg with
    | normal =>
      have n2 := codeA_nx hm h2
      refine ihx h1 n c hB (hfr.left n2) (fun a1 w1 φ1 p1 c1 => ?_)
      exact ihy h2 n c1 (Nat.le_trans hB p1.size) (hfr.after p1) (fun a' w' φ' p' c' => hq a' w' φ' (p1.trans p') c')
    | exit i => cases h2; exact ihx h1 n c hB hfr hq
    | ret => cases h2; exact ihx h1 n c hB hfr hq
  | cond x b1 b2 ih1 ih2 =>
    intro lk sz fr s sig fr' s' h φ a w B ro Q n c hB hfr hq
    obtain ⟨v, h1, h2⟩ := bind_inv h
    split at h2
    · rename_i t
      have hv := opdA_sound c.hr c.fr h1
      generalize hx : a.eval x = y at hv
      cases hv
      refine wpIn_cond hx ?_
      cases t with
      | true => exact ih1 (by simpa using h2) n c hB hfr hq
      | false => exact ih2 (by simpa using h2) n c hB hfr hq
    · cases h2
  | block id b ih =>
    intro lk sz fr s sig fr' s' h φ a w B ro Q n c hB hfr hq
    obtain ⟨⟨sg, f1, s1⟩, h1, h2⟩ := map_inv h
    refine wpIn_block ?_
    cases sg with
    | normal => cases h2; exact ih h1 n c hB hfr hq
    | exit i =>
      simp only at h2
      split at h2
      · rename_i hi
        cases h2
        refine ih h1 n c hB hfr (fun a' w' φ' p' c' => ?_)
        show Exit.inBlock id Q (.exit i) a' w'
        simp only [Exit.inBlock, hi, if_true]
        exact hq a' w' φ' p' c'
      · rename_i hi
        cases h2
        refine ih h1 n c hB hfr (fun a' w' φ' p' c' => ?_)
        show Exit.inBlock id Q (.exit i) a' w'
        simp only [Exit.inBlock, hi, if_false]
        exact hq a' w' φ' p' c'
    | ret => cases h2; exact ih h1 n c hB hfr hq
  | loop b ih =>
    intro lk sz fr s sig fr' s' h φ a w B ro Q n c hB hfr hq
    obtain ⟨m, hm'⟩ := hR.loop h
    exact wpIn_loop_rounds m (hm' n c hB hfr (fun a' w' φ' p' c' => by
      have := hq a' w' φ' p' c'
      cases sig <;> exact this))
  | rangeFunc f ps assign body ih1 ih2 =>
    intro lk sz fr s sig fr' s' h φ a w B ro Q n c hB hfr hq
    obtain ⟨fv, h1, h⟩ := bind_inv h
    obtain ⟨⟨v, s2⟩, h2, h3⟩ := bind_inv h
    simp only at h3
    have hv := opdA_sound c.hr c.fr h1
    split at h2
    · rename_i g fi ca
      generalize hx : a.eval f = y at hv
      cases hv with
      | func _ _ _ fi' _ ca' hfn s1' h1' s2' h2' =>
      cases hfn
      -- what comes behind the loop
      have hnx : s2.nx = s'.nx := by
        revert h3; repeat' split
        all_goals intro h3
        all_goals first | (cases h3; done) | (simp only [Option.some.injEq, Prod.mk.injEq] at h3; obtain ⟨_, _, rfl⟩ := h3; rfl)
      have hs2 : s.nx + 1 ≤ s2.nx := hm.call h2
      have hf : φ s.nx = none := hfr s.nx (Nat.le_refl _) (by omega)
      refine wpIn_rangeFunc (fun fn _ => ?_)
      -- the record
      have start : ∃ (w1 : World) (mark : List Deferred) (dl : Nat), Post P φ lk s w φ s w1 ∧ DefOK φ s w1 B (mark ++ a.defers) ∧
          (Instr.enterLoop fn a.tmps ps assign body (Fn ro).round).run P w = .ok (w1.heap.size, mark) (w1.alloc (.loop { state := .ready, pending := none, fn, tmps := a.tmps, params := ps, assign, body, defers := dl })) := by
        cases ro with
        | none =>
          have p0 := Post.grow (lk := lk) c.hr (.deferred (some []))
          refine ⟨w.alloc (.deferred (some [])), [{ target := .collected w.heap.size, args := #[] }], w.heap.size, p0, ⟨⟨w.heap.size, rfl, hB, World.alloc_heap_new w _, fun id im hl hi => ?_, fun d hd => ?_⟩, DefOK.post p0 c.df⟩, ?_⟩
          · obtain ⟨o, ho⟩ := Option.ne_none_iff_exists'.1 hl
            have := c.hr.lt ho hi; omega
          · have key : ∀ {ds : List Deferred}, DefOK φ s w B ds → ∀ d ∈ ds, d.target ≠ .collected w.heap.size := by
              intro ds
              induction ds with
              | nil => intro _ d hd; cases hd
              | cons d0 ds ih =>
                rintro ⟨⟨r, q1, q2, q3, q4, q5⟩, q6⟩ d hd
                rcases List.mem_cons.1 hd with rfl | hd
                · rw [q1]; intro e; cases e
                  have := (Array.getElem?_eq_some_iff.1 q3).1; omega
                · exact ih q6 d hd
            exact key c.df d hd
          · rw [show (Fn none).round = none from rfl, run_enterLoop_outer]
            simp
        | some l0 =>
          obtain ⟨id, L, im, q1, q2, q3⟩ := c.rd l0 rfl
          obtain ⟨r0, q4, _⟩ := loop_get c.hr q1 q2
          rw [q3] at q4
          exact ⟨w, [], r0.defers, Post.refl c.hr, c.df, run_enterLoop_inner q4 fn a.tmps ps assign body⟩
      obtain ⟨w1, mark, dl, p1, hd1, hrun⟩ := start
      have hlk := c.lk
      have p2' := Post.new (lk := lk) (o := .loop { fr, sz, params := ps, assign, body, state := .ready, pending := none }) (im := ⟨w1.heap.size, 0, 0, 0⟩)
        (ob := .loop { state := .ready, pending := none, fn, tmps := a.tmps, params := ps, assign, body, defers := dl }) p1.rel hlk hf rfl ⟨_, rfl, rfl, rfl, rfl, rfl, rfl, c.fr.mono (addI_sub hf)⟩
      have p2 := p1.trans p2'
      have hd2 := DefOK.post p2' hd1
      have hy : VR (addI φ s.nx ⟨w1.heap.size, 0, 0, 0⟩) (.func (.yield s.nx) #[] #[]) (.func (.yield w1.heap.size) #[] #[]) :=
        .func _ _ _ _ _ _ (.yield s.nx ⟨w1.heap.size, 0, 0, 0⟩ (addI_self φ _ _)) rfl (fun i v v' h => by simp at h) rfl (fun i v v' h => by simp at h)
      have hl := (((LR.of_arrays s1' h1').mono (addI_sub (im := ⟨w1.heap.size, 0, 0, 0⟩) hf)).append (LR.cons hy (LR.nil _))).append ((LR.of_arrays s2' h2').mono (addI_sub (im := ⟨w1.heap.size, 0, 0, 0⟩) hf))
      obtain ⟨_, hcf, hcall⟩ := hR.call h2 p2.rel hl (Nat.le_trans hlk p2.nx) ((hfr.left (by omega)).after p2)
      have e1 : fi' ++ #[Value.func (.yield w1.heap.size) #[] #[]] ++ ca' = (fi'.toList ++ [Value.func (.yield w1.heap.size) #[] #[]] ++ ca'.toList).toArray := by apply Array.ext'; simp
      refine ⟨w1.heap.size, mark, _, { target := .fn (.func g) ca', args := fi' ++ #[Value.func (.yield w1.heap.size) #[] #[]] }, w1.alloc (.loop { state := .ready, pending := none, fn, tmps := a.tmps, params := ps, assign, body, defers := dl }), g, _, _, hrun, ?_, fun _ _ => trivial, ?_, Fn_depth ro n, (hcall (n - 1) ro).mono ?_⟩
      · simp only [resolve, hx]
        simp [Deferred.ofValue, Act.eval]
      · simp only [invoke]
        rw [e1]; exact hcf
      rintro e w3 ⟨v', φ3, rfl, _, p3⟩
      have hi3 : φ3 s.nx = some ⟨w1.heap.size, 0, 0, 0⟩ := p3.ext _ _ (addI_self φ _ _)
      split at h3
      · rename_i L hL
        obtain ⟨r, hr1, hr2⟩ := loop_get p3.rel hL hi3
        obtain ⟨k1, k2, k3, k4, k5, k6⟩ := hr2
        have p4 := fun ob => (p2.trans p3).kill c.hr (Nat.le_refl _) hlk hL rfl hi3 ob
        have c4 : ∀ ob, Cx P φ3 sz lk B ro fr { s2 with hp := s2.hp.put s.nx none } { a with defers := mark ++ a.defers } (setB w3 w1.heap.size ob) := fun ob => {
          hr := (p4 ob).rel
          fr := c.fr.mono (p4 ob).ext
          lk := Nat.le_trans hlk (p4 ob).nx
          df := DefOK.kill hL hi3 (DefOK.post p3 hd2)
          rd := fun l hl => by
            obtain ⟨id, L', im, q1, q2, q3⟩ := c.rd l hl
            obtain ⟨L'', q4⟩ := (p4 ob).keep id L' q1
            exact ⟨id, L'', im, q4, (p4 ob).ext _ _ q2, q3⟩ }
        have hend : L.state ≠ .busy → (Instr.endLoop w1.heap.size).run P w3 = .ok L.pending (setB w3 w1.heap.size (.loop { r with state := .exhausted })) := fun hb => by
          have := run_endLoop (P := P) hr1 (by rw [k1]; exact hb)
          rw [← k2]; exact this
        split at h3
        · cases h3
        · rename_i hpd hb
          simp only [Option.some.injEq, Prod.mk.injEq] at h3
          obtain ⟨rfl, rfl, rfl⟩ := h3
          have := hend (fun e => hb e)
          rw [hpd] at this
          exact ⟨none, _, this, hq _ _ φ3 (p4 _) (c4 _)⟩
        · rename_i hpd hb
          simp only [Option.some.injEq, Prod.mk.injEq] at h3
          obtain ⟨rfl, rfl, rfl⟩ := h3
          have := hend (fun e => hb e)
          rw [hpd] at this
          exact ⟨some .ret, _, this, wpIn_ret (hq _ _ φ3 (p4 _) (c4 _))⟩
        · rename_i hpd hb
          simp only [Option.some.injEq, Prod.mk.injEq] at h3
          obtain ⟨rfl, rfl, rfl⟩ := h3
          have := hend (fun e => hb e)
          rw [hpd] at this
          exact ⟨some (.exit _), _, this, wpIn_exit (hq _ _ φ3 (p4 _) (c4 _))⟩
        · cases h3
      · cases h3
    · cases h2
  | exit id => intro lk sz fr s sig fr' s' h φ a w B ro Q n c _ _ hq; cases h; exact wpIn_exit (hq a w φ (Post.refl c.hr) c)
  | scope b ih => intro lk sz fr s sig fr' s' h; cases h
  | goto l => intro lk sz fr s sig fr' s' h; cases h
  | ret => intro lk sz fr s sig fr' s' h φ a w B ro Q n c _ _ hq; cases h; exact wpIn_ret (hq a w φ (Post.refl c.hr) c)
  | refuse y => intro lk sz fr s sig fr' s' h; cases h

end Go.Ev

/- The evaluator is sound: what it answers, the model's call answers, in whatever world. -/
namespace Go.Ev
open Go
variable {P : Program} {R : Rec}

theorem callFA_sound (hR : RecOK P R) (hm : MonoR R) (hab : AbR R) (hmix : P.follows .mixedOrders = true) {lk : Nat} {f : FuncId} {args : List Value} {s : HS} {v : Value} {s' : HS} (h : callFA P R lk f args s = some (v, s'))
    {φ : Inj} {w : World} {args' : List Value} (H : HR P φ s w) (hl : LR φ args args') (hlk : lk ≤ s.nx) (hfr : Fresh φ s.nx s'.nx) :
    s.nx ≤ s'.nx ∧ (callFunc f args'.toArray).run P w = .ok (.enter f args'.toArray) w ∧ ∀ n ro, CallsIn (Fn ro) n P f args'.toArray w (CPost P φ lk s w v s') := by
  unfold callFA at h
  split at h
  · cases h
  · rename_i fn hfn
    split at h
    · cases h
    · rename_i c hb
      split at h
      · cases h
      · rename_i hc
        simp only [not_or] at hc
        obtain ⟨hname, hsz⟩ := hc
        obtain ⟨⟨sg, fr1, s1⟩, h1, h2⟩ := bind_inv h
        have hnx : s1 = s' ∧ ∃ vs, omap (resA P fr1 s1.hp) fn.results.toList = some vs ∧ packR vs = v ∧ (sg = .normal ∨ sg = .ret) := by
          cases sg with
          | exit i => cases h2
          | normal => obtain ⟨vs, h3, h4⟩ := map_inv h2; cases h4; exact ⟨rfl, vs, h3, rfl, Or.inl rfl⟩
          | ret => obtain ⟨vs, h3, h4⟩ := map_inv h2; cases h4; exact ⟨rfl, vs, h3, rfl, Or.inr rfl⟩
        obtain ⟨rfl, vs, hvs, hpk, hsg⟩ := hnx
        refine ⟨codeA_nx hm h1, ?_, fun n ro => ?_⟩
        · simp [callFunc, hfn, hname, hb]
        · have hlen := hl.1
          refine callsIn_of_wp_marks (F := Fn none) (fn := fn) (c := c) hfn hb trivial ?_
          have c0 : Cx P φ fn.ntmps lk w.heap.size none (paramsA .nil args 0) s { tmps := args'.toArray ++ Array.replicate (fn.ntmps - args'.toArray.size) undef, defers := [] } w := {
            hr := H
            fr := params_rel hl (by omega)
            lk := hlk
            df := trivial
            rd := fun l hl => by cases hl }
          refine codeA_sound hR hm hab hmix c h1 n c0 (Nat.le_refl _) hfr (fun a' w' φ' p' c' => ?_)
          have := leavesM (lk := lk) (ro := none) (n := n) (fn := fn) c'.fr hvs hpk.symm a'.defers w' p' c'.df
          rcases hsg with rfl | rfl
          · exact this
          · exact this

theorem roundFA_sound (hR : RecOK P R) (hm : MonoR R) (hab : AbR R) (hmix : P.follows .mixedOrders = true) {lk l : Nat} {args : List Value} {s : HS} {v : Value} {s' : HS} (h : roundFA P R lk l args s = some (v, s'))
    {φ : Inj} {w : World} {im : Img} {args' : List Value} (H : HR P φ s w) (hl : LR φ args args') (hlk : lk ≤ s.nx) (hfr : Fresh φ s.nx s'.nx) (hi : φ l = some im) :
    ∃ f tmps assign body, (Instr.yield im.blk args'.toArray).run P w = .ok (.round im.blk f tmps assign body) w ∧ ∀ n ro, RoundIn (Fn ro) n P im.blk f tmps assign body w (CPost P φ lk s w v s') := by
  unfold roundFA at h
  split at h
  · cases h
  rename_i hlkl
  simp only [Decidable.not_not] at hlkl
  obtain ⟨L, hL, h⟩ := bind_inv h
  have hgL := loopAt_get hL
  obtain ⟨r, hr1, hr2⟩ := loop_get H hgL hi
  have hr2' := hr2
  obtain ⟨k1, k2, k3, k4, k5, k6⟩ := hr2'
  split at h
  · cases h
  rename_i hal
  simp only [ne_eq, Decidable.not_not] at hal
  obtain ⟨fr, hpa, h⟩ := bind_inv h
  obtain ⟨⟨sg1, fr1, s1⟩, h1, h⟩ := bind_inv h
  cases sg1 with
  | exit i => cases h
  | ret => cases h
  | normal =>
  obtain ⟨L1, hL1, h⟩ := bind_inv h
  split at h
  · rename_i hst
    obtain ⟨⟨sg2, fr2, s2⟩, h2, h⟩ := bind_inv h
    obtain ⟨L2, hL2, h⟩ := bind_inv h
    have n1 := codeA_nx hm h1
    have n2 := codeA_nx hm h2
    simp only at n2
    have hs' : s'.nx = s2.nx := by cases sg2 <;> (cases h; rfl)
    have hlen := hl.1
    have hsz : args'.toArray.size = r.params.size := by
      rw [k3]; simp only [List.size_toArray]; rw [← hlen, hal]; simp
    refine ⟨r.fn, _, r.assign, r.body, run_yield hr1 hsz, fun n ro => roundIn_of_wpIn (F := Fn ro) trivial ?_⟩
    change r.assign.wpIn (Fn (some im.blk)) n P _ _ w
    rw [k3, k4, k5]
    have hfold : (L.params.zip args'.toArray).foldl (fun (tmps : Array Value) (p : Tmp × Value) => tmps.setIfInBounds p.1 p.2) r.tmps =
        (L.params.toList.zip args').foldl (fun (tmps : Array Value) (p : Tmp × Value) => tmps.setIfInBounds p.1 p.2) r.tmps := by
      rw [← Array.foldl_toList]; simp
    have hF : FrR φ L.sz fr ((L.params.toList.zip args').foldl (fun (tmps : Array Value) (p : Tmp × Value) => tmps.setIfInBounds p.1 p.2) r.tmps) := by
      refine parA_rel (ps := L.params.toList.zip args) (by simp [hlen]) (fun i t v hi => ?_) k6 hpa
      rw [List.getElem?_zip_eq_some] at hi
      obtain ⟨v', e1, e2⟩ := hl.get hi.2
      exact ⟨v', by rw [List.getElem?_zip_eq_some]; exact ⟨hi.1, e1⟩, e2⟩
    have c0 : Cx P φ L.sz lk w.heap.size (some im.blk) fr s { tmps := (L.params.zip args'.toArray).foldl (fun (tmps : Array Value) (p : Tmp × Value) => tmps.setIfInBounds p.1 p.2) r.tmps, defers := [] } w := {
      hr := H
      fr := by rw [hfold]; exact hF
      lk := hlk
      df := trivial
      rd := fun l' hl' => by cases hl'; exact ⟨l, L, im, hgL, hi, rfl⟩ }
    refine codeA_sound hR hm hab hmix L.assign h1 n c0 (Nat.le_refl _) (hfr.left (by omega)) (fun a1 w1 φ1 p1 c1 => ?_)
    have hi1 := p1.ext _ _ hi
    have hg1 := loopAt_get hL1
    obtain ⟨q, hq1, hq2⟩ := loop_get c1.hr hg1 hi1
    have hb := run_beginRound (P := P) hq1 (by rw [hq2.1]; exact hst)
    have pb := loop_put (lk := lk) (L' := { L1 with state := .busy }) (r' := { q with state := .busy }) c1.hr hlkl hg1 hi1 ⟨rfl, hq2.2⟩
    refine ⟨setB w1 im.blk (.loop { q with state := .busy }), hb, ?_⟩
    have p1b := p1.trans pb
    have c1b : Cx P φ1 L.sz lk w.heap.size (some im.blk) fr1 { s1 with hp := s1.hp.put l (some (.loop { L1 with state := .busy })) } a1 (setB w1 im.blk (.loop { q with state := .busy })) :=
      c1.post pb c1.fr rfl
    refine codeA_sound hR hm hab hmix L.body h2 n c1b p1b.size ((hfr.left (by omega)).after p1b) (fun a2 w2 φ2 p2 c2 => ?_)
    have hi2 := p2.ext _ _ hi1
    have hg2 := loopAt_get hL2
    obtain ⟨q2, hq3, hq4⟩ := loop_get c2.hr hg2 hi2
    have pe := fun (st : LoopState) (pd : Option Code) => loop_put (lk := lk) (L' := { L2 with state := st, pending := pd }) (r' := { q2 with state := st, pending := pd }) c2.hr hlkl hg2 hi2 ⟨rfl, rfl, hq4.2.2⟩
    have fin := fun (st : LoopState) (pd : Option Code) => (p1b.trans p2).trans (pe st pd)
    cases sg2 with
    | normal =>
      cases h
      refine ⟨_, _, run_endRound (P := P) none hq3, .bool true, φ2, rfl, .bool true, ?_⟩
      exact fin .ready none
    | ret =>
      cases h
      refine ⟨_, _, run_endRound (P := P) (some .ret) hq3, .bool false, φ2, rfl, .bool false, ?_⟩
      exact fin .done (some .ret)
    | exit id =>
      cases h
      refine ⟨_, _, run_endRound (P := P) (some (.exit id)) hq3, .bool false, φ2, rfl, .bool false, ?_⟩
      exact fin .done (some (.exit id))
  · cases h

theorem loopFA_sound (hR : RecOK P R) (hm : MonoR R) (hab : AbR R) (hmix : P.follows .mixedOrders = true) {lk sz : Nat} {c : Code} {fr : Fr} {s : HS} {sig : Sig} {fr' : Fr} {s' : HS} (h : loopFA P R lk sz c fr s = some (sig, fr', s')) :
    ∃ m, ∀ {φ : Inj} {a : Act} {w : World} {B : Nat} {ro : Option Nat} {Q : Exit → Act → World → Prop} (n : Nat), Cx P φ sz lk B ro fr s a w → B ≤ w.heap.size → Fresh φ s.nx s'.nx →
    (∀ a' w' φ', Post P φ lk s w φ' s' w' → Cx P φ' sz lk B ro fr' s' a' w' → Q (match sig with | .normal => .normal | .exit id => .exit id | .ret => .ret) a' w') → Code.roundsIn (Fn ro) n P c Q m a w := by
  unfold loopFA at h
  obtain ⟨⟨sg, fr1, s1⟩, h1, h2⟩ := bind_inv h
  have n1 := codeA_nx hm h1
  cases sg with
  | normal =>
    obtain ⟨m, hm'⟩ := hR.loop h2
    refine ⟨m + 1, fun {φ a w B ro Q} n cx hB hfr hq => ?_⟩
    rw [roundsIn_succ]
    have n2 := hm.loop h2
    refine codeA_sound hR hm hab hmix c h1 n cx hB (hfr.left n2) (fun a1 w1 φ1 p1 c1 => ?_)
    exact hm' n c1 (Nat.le_trans hB p1.size) (hfr.after p1) (fun a' w' φ' p' c' => hq a' w' φ' (p1.trans p') c')
  | exit i =>
    cases h2
    refine ⟨1, fun {φ a w B ro Q} n cx hB hfr hq => ?_⟩
    rw [roundsIn_succ]
    exact codeA_sound hR hm hab hmix c h1 n cx hB hfr (fun a1 w1 φ1 p1 c1 => hq a1 w1 φ1 p1 c1)
  | ret =>
    cases h2
    refine ⟨1, fun {φ a w B ro Q} n cx hB hfr hq => ?_⟩
    rw [roundsIn_succ]
    exact codeA_sound hR hm hab hmix c h1 n cx hB hfr (fun a1 w1 φ1 p1 c1 => hq a1 w1 φ1 p1 c1)

theorem ev0_ok (P : Program) (hmix : P.follows .mixedOrders = true) : ∀ n, RecOK P (ev0 P n) := by
  intro n
  induction n with
  | zero => exact ⟨fun h => (by cases h), fun h => (by cases h), fun h => (by cases h)⟩
  | succ n ih =>
    have hm := ev0_mono P n
    have hab := ev0_ab P n
    exact ⟨fun h => callFA_sound ih hm hab hmix h, fun h => roundFA_sound ih hm hab hmix h, fun h => loopFA_sound ih hm hab hmix h⟩

end Go.Ev

/- More fuel and a lower lock: the same answer. -/
namespace Go.Ev
open Go
variable {P : Program}

structure RLe (R R' : Rec) : Prop where
  call : ∀ {lk lk' f args s r}, lk' ≤ lk → R.call lk f args s = some r → R'.call lk' f args s = some r
  round : ∀ {lk lk' l args s r}, lk' ≤ lk → R.round lk l args s = some r → R'.round lk' l args s = some r
  loop : ∀ {lk lk' sz c fr s r}, lk' ≤ lk → R.loop lk sz c fr s = some r → R'.loop lk' sz c fr s = some r

theorem bind_le {α β : Type} {x y : Option α} {f g : α → Option β} {r : β} (h : x.bind f = some r) (hx : ∀ a, x = some a → y = some a) (hf : ∀ a, f a = some r → g a = some r) : y.bind g = some r := by
  obtain ⟨a, h1, h2⟩ := bind_inv h
  rw [hx a h1]; exact hf a h2

theorem map_le {α β : Type} {x y : Option α} {f : α → β} {r : β} (h : x.map f = some r) (hx : ∀ a, x = some a → y = some a) : y.map f = some r := by
  obtain ⟨a, h1, h2⟩ := map_inv h
  rw [hx a h1, ← h2]; rfl

theorem writeA_le {lk lk' : Nat} (hl : lk' ≤ lk) {h h' : T AObj} {a : Addr} {vs : List Value} (e : writeA lk h a vs = some h') : writeA lk' h a vs = some h' := by
  unfold writeA at *
  split at e
  · rename_i h1 h2
    split at e
    · rename_i hc
      rw [if_pos ⟨Nat.le_trans hl hc.1, hc.2⟩]; exact e
    · cases e
  · cases e

theorem storeV_le {lk lk' : Nat} (hl : lk' ≤ lk) {s s' : HS} {t : TypeId} {a v : Value} (e : storeV P lk s t a v = some s') : storeV P lk' s t a v = some s' := by
  unfold storeV at *
  split at e
  · refine bind_le e (fun _ h => h) (fun n h => ?_)
    split at h
    · rename_i hc; rw [if_pos hc]; exact map_le h (fun _ h => writeA_le hl h)
    · cases h
  · cases e

theorem mapUpdateA_le {lk lk' : Nat} (hl : lk' ≤ lk) {s s' : HS} {t : TypeId} {m k v : Value} (e : mapUpdateA P lk t m k v s = some s') : mapUpdateA P lk' t m k v s = some s' := by
  unfold mapUpdateA at *
  refine bind_le e (fun _ h => h) (fun x h => ?_)
  refine bind_le h (fun _ h => h) (fun kind h => ?_)
  split at h
  · rename_i hk; rw [if_pos hk]
    split at h
    · split at h
      · rename_i hlk; rw [if_pos (Nat.le_trans hl hlk)]; exact h
      · cases h
    · cases h
  · cases h

theorem appendA_le {lk lk' : Nat} (hl : lk' ≤ lk) {s : HS} {t : TypeId} {x y : Value} {r : Value × HS} (e : appendA P lk t x y s = some r) : appendA P lk' t x y s = some r := by
  unfold appendA at *
  cases x <;> first | (cases e; done) | skip
  simp only at e ⊢
  refine bind_le e (fun _ h => h) (fun x1 h1_ => ?_)
  refine bind_le h1_ (fun _ h => h) (fun x2 h2_ => ?_)
  refine bind_le h2_ (fun _ h => h) (fun x3 h3_ => ?_)
  refine bind_le h3_ (fun _ h => h) (fun x4 h4_ => ?_)
  refine bind_le h4_ (fun _ h => h) (fun x5 h5_ => ?_)
  split at h5_
  · cases h5_
  rename_i hc
  rw [if_neg hc]
  split at h5_
  · rename_i h0; rw [if_pos h0]; exact h5_
  rename_i h0
  rw [if_neg h0]
  refine bind_le h5_ (fun _ h => h) (fun new h6_ => ?_)
  split at h6_
  · exact h6_
  · split at h6_
    · rename_i hu
      rw [if_pos hu]
      split at h6_
      · rename_i hv; rw [if_pos hv]; exact map_le h6_ (fun _ h => writeA_le hl h)
      · rename_i hv; rw [if_neg hv]; exact h6_
    · rename_i hu
      rw [if_neg hu]
      split at h6_
      · rename_i hv; rw [if_pos hv]; exact map_le h6_ (fun _ h => writeA_le hl h)
      · rename_i hv
        rw [if_neg hv]
        refine bind_le h6_ (fun _ h => h) (fun old h7_ => ?_)
        split at h7_
        · split at h7_
          · rename_i hg
            rw [if_pos ⟨Nat.le_trans hl hg.1, hg.2⟩]; exact h7_
          · cases h7_
        · cases h7_

theorem copyA_le {lk lk' : Nat} (hl : lk' ≤ lk) {s : HS} {t : TypeId} {x y : Value} {r : Value × HS} (e : copyA P lk t x y s = some r) : copyA P lk' t x y s = some r := by
  unfold copyA at *
  cases x <;> first | (cases e; done) | skip
  simp only at e ⊢
  refine bind_le e (fun _ h => h) (fun x1 h1_ => ?_)
  refine bind_le h1_ (fun _ h => h) (fun x2 h2_ => ?_)
  refine bind_le h2_ (fun _ h => h) (fun x3 h3_ => ?_)
  refine bind_le h3_ (fun _ h => h) (fun new h4_ => ?_)
  split at h4_
  · exact h4_
  · split at h4_
    · rename_i h0; rw [if_pos h0]; exact h4_
    · rename_i h0; rw [if_neg h0]; exact map_le h4_ (fun _ h => writeA_le hl h)

theorem clearA_le {lk lk' : Nat} (hl : lk' ≤ lk) {s : HS} {t : TypeId} {x : Value} {r : Value × HS} (e : clearA P lk t x s = some r) : clearA P lk' t x s = some r := by
  unfold clearA at *
  split at e
  · exact e
  · rename_i h1
    split at e
    · rename_i h0; rw [if_pos h0]; exact e
    · rename_i h0
      rw [if_neg h0]
      refine bind_le e (fun _ h => h) (fun z h => ?_)
      split at h
      · cases h
      · rename_i hz; rw [if_neg hz]; exact map_le h (fun _ h => writeA_le hl h)
  · cases e

theorem builtinA_le {lk lk' : Nat} (hl : lk' ≤ lk) {b : Builtin} {ts : List TypeId} {args : List Value} {s : HS} {r : Value × HS} (e : builtinA P lk b ts args s = some r) : builtinA P lk' b ts args s = some r := by
  unfold builtinA at *
  split at e
  · split at e
    · cases e
    · exact appendA_le hl e
    · cases e
  · exact copyA_le hl e
  · exact clearA_le hl e
  · exact e
  · exact e
  · exact e
  · cases e

theorem callA_le {R R' : Rec} (hR : RLe R R') {lk lk' : Nat} (hl : lk' ≤ lk) {f : Value} {args : List Value} {s : HS} {r : Value × HS} (e : callA R lk f args s = some r) : callA R' lk' f args s = some r := by
  unfold callA at *
  split at e
  · exact hR.call hl e
  · split at e
    · rename_i h; rw [if_pos h]; exact hR.round hl e
    · cases e
  · cases e

theorem opA_le {R R' : Rec} (hR : RLe R R') {lk lk' : Nat} (hl : lk' ≤ lk) {fr : Fr} {s : HS} {o : Oper} {r : Value × HS} (e : opA P R lk fr s o = some r) : opA P R' lk' fr s o = some r := by
  obtain ⟨dst, op, type, pos, after, guard⟩ := o
  cases op
  case store t a x =>
    refine bind_le (x := opdA P.globals.size fr a) e (fun _ h => h) (fun x1 h1 => ?_)
    refine bind_le (x := opdA P.globals.size fr x) h1 (fun _ h => h) (fun x2 h2 => ?_)
    exact map_le h2 (fun _ h => storeV_le hl h)
  case mapUpdate t m k v =>
    refine bind_le (x := opdA P.globals.size fr m) e (fun _ h => h) (fun x1 h1 => ?_)
    refine bind_le (x := opdA P.globals.size fr k) h1 (fun _ h => h) (fun x2 h2 => ?_)
    refine bind_le (x := opdA P.globals.size fr v) h2 (fun _ h => h) (fun x3 h3 => ?_)
    exact map_le h3 (fun _ h => mapUpdateA_le hl h)
  case call c =>
    refine bind_le (x := omap (opdA P.globals.size fr) c.args.toList) e (fun _ h => h) (fun args h => ?_)
    obtain ⟨cal, cargs, ats⟩ := c
    cases cal with
    | value f => exact bind_le (x := opdA P.globals.size fr f) h (fun _ h => h) (fun f h => callA_le hR hl h)
    | invoke r m => cases h
    | builtin b => exact builtinA_le hl h
  case makeMap t r => cases r <;> exact e
  case makeFunc f fi ca => cases f <;> exact e
  all_goals exact e

theorem stepA_le {R R' : Rec} (hR : RLe R R') {lk lk' sz : Nat} (hl : lk' ≤ lk) {ops : List Oper} {fr : Fr} {s : HS} {o : Oper} {r : Fr × HS} (e : stepA P R lk sz ops fr s o = some r) : stepA P R' lk' sz ops fr s o = some r := by
  unfold stepA at *
  refine bind_le e (fun _ h => h) (fun w h => ?_)
  cases w with
  | true => exact bind_le h (fun _ h => opA_le hR hl h) (fun _ h => h)
  | false => exact h

theorem opsA_le {R R' : Rec} (hR : RLe R R') {lk lk' sz : Nat} (hl : lk' ≤ lk) {all : List Oper} {r : Fr × HS} : ∀ {ops : List Oper} {fr : Fr} {s : HS}, opsA P R lk sz all ops fr s = some r → opsA P R' lk' sz all ops fr s = some r := by
  intro ops
  induction ops with
  | nil => intro fr s h; exact h
  | cons o os ih => intro fr s h; exact bind_le h (fun _ h => stepA_le hR hl h) (fun _ h => ih h)

theorem drawA_le {R R' : Rec} (hR : RLe R R') {lk lk' sz : Nat} (hl : lk' ≤ lk) {all : List Oper} {r : Fr × HS} : ∀ {ops : List Oper} {ps : List PlanRow} {k : Nat} {made : List (Nat × Nat × Nat)} {fr : Fr} {s : HS},
    drawA P R lk sz all ops ps k made fr s = some r → drawA P R' lk' sz all ops ps k made fr s = some r := by
  intro ops
  induction ops with
  | nil => intro ps k made fr s h; cases ps <;> exact h
  | cons o os ih =>
    intro ps k made fr s h
    cases ps with
    | nil => cases h
    | cons p ps =>
      exact bind_le h (fun _ h => stepA_le hR (by cases p.bar <;> simp [hl]) h) (fun _ h => bind_le h (fun _ h => h) (fun _ h => ih h))

theorem codeA_le {R R' : Rec} (hR : RLe R R') {lk lk' sz : Nat} (hl : lk' ≤ lk) : ∀ {c : Code} {fr : Fr} {s : HS} {r : Sig × Fr × HS}, codeA P R lk sz c fr s = some r → codeA P R' lk' sz c fr s = some r := by
  intro c
  induction c with
  | skip => intro fr s r h; exact h
  | label l => intro fr s r h; exact h
  | region id ops draw =>
    intro fr s r h
    cases draw with
    | false => exact map_le h (fun _ h => opsA_le hR hl h)
    | true => exact bind_le h (fun _ h => h) (fun pl h => map_le h (fun _ h => drawA_le hR hl h))
  | seq x y ihx ihy =>
    intro fr s r h
    refine bind_le h (fun _ h => ihx h) (fun a h => ?_)
    obtain ⟨sg, f1, s1⟩ := a
    cases sg with
    | normal => exact ihy h
    | exit i => exact h
    | ret => exact h
  | cond c x y ihx ihy =>
    intro fr s r h
    refine bind_le h (fun _ h => h) (fun v h => ?_)
    split at h
    · split at h
      · rename_i ht; rw [if_pos ht]; exact ihx h
      · rename_i ht; rw [if_neg ht]; exact ihy h
    · cases h
  | block id c ih => intro fr s r h; exact map_le h (fun _ h => ih h)
  | loop c ih => intro fr s r h; exact hR.loop hl h
  | rangeFunc f ps assign body ih1 ih2 =>
    intro fr s r h
    refine bind_le h (fun _ h => h) (fun fv h => ?_)
    refine bind_le h (fun x hx => ?_) (fun _ h => h)
    split at hx
    · exact hR.call hl hx
    · cases hx
  | exit id => intro fr s r h; exact h
  | scope c ih => intro fr s r h; cases h
  | goto l => intro fr s r h; cases h
  | ret => intro fr s r h; exact h
  | refuse y => intro fr s r h; cases h

theorem callFA_le {R R' : Rec} (hR : RLe R R') {lk lk' : Nat} (hl : lk' ≤ lk) {f : FuncId} {args : List Value} {s : HS} {r : Value × HS} (h : callFA P R lk f args s = some r) : callFA P R' lk' f args s = some r := by
  unfold callFA at *
  split at h
  · cases h
  · split at h
    · cases h
    · rename_i hb
      split at h
      · cases h
      · rename_i hn
        rw [if_neg hn]
        exact bind_le h (fun _ h => codeA_le hR hl h) (fun _ h => h)

theorem roundFA_le {R R' : Rec} (hR : RLe R R') {lk lk' : Nat} (hl : lk' ≤ lk) {l : Nat} {args : List Value} {s : HS} {r : Value × HS} (h : roundFA P R lk l args s = some r) : roundFA P R' lk' l args s = some r := by
  unfold roundFA at *
  split at h
  · cases h
  rename_i hlk
  rw [if_neg (by omega)]
  refine bind_le h (fun _ h => h) (fun L h => ?_)
  split at h
  · cases h
  rename_i ha
  rw [if_neg ha]
  refine bind_le h (fun _ h => h) (fun fr h => ?_)
  refine bind_le h (fun _ h => codeA_le hR hl h) (fun x h => ?_)
  obtain ⟨sg, f1, s1⟩ := x
  cases sg with
  | exit i => cases h
  | ret => cases h
  | normal =>
    refine bind_le h (fun _ h => h) (fun L1 h => ?_)
    split at h
    · rename_i hst
      exact bind_le h (fun _ h => codeA_le hR hl h) (fun _ h => h)
    · cases h

theorem loopFA_le {R R' : Rec} (hR : RLe R R') {lk lk' sz : Nat} (hl : lk' ≤ lk) {c : Code} {fr : Fr} {s : HS} {r : Sig × Fr × HS} (h : loopFA P R lk sz c fr s = some r) : loopFA P R' lk' sz c fr s = some r := by
  unfold loopFA at *
  refine bind_le h (fun _ h => codeA_le hR hl h) (fun x h => ?_)
  obtain ⟨sg, f1, s1⟩ := x
  cases sg with
  | normal => exact hR.loop hl h
  | exit i => exact h
  | ret => exact h

theorem nextR_le {R R' : Rec} (h : RLe R R') : RLe (nextR P R) (nextR P R') := ⟨fun hl g => callFA_le h hl g, fun hl g => roundFA_le h hl g, fun hl g => loopFA_le h hl g⟩

theorem ev0_le (P : Program) : ∀ {n m : Nat}, n ≤ m → RLe (ev0 P n) (ev0 P m) := by
  intro n
  induction n with
  | zero => intro m _; exact ⟨fun _ h => (by cases h), fun _ h => (by cases h), fun _ h => (by cases h)⟩
  | succ n ih =>
    intro m hm
    cases m with
    | zero => omega
    | succ m => exact nextR_le (ih (m := m) (by omega))
end Go.Ev
