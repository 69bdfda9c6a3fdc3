import Derived.Test.YthedojfbofcefaaDoorEvG16
/- Plain laws: the order in which components can be moved out. -/
set_option linter.unusedSimpArgs false
set_option linter.unusedVariables false
namespace Go.Ev
open Go

/-! ### Bits -/
/-- What a set has beyond another one. -/
def andnN (a b : Nat) : Nat := (BitVec.ofNat 64 a &&& ~~~BitVec.ofNat 64 b).toNat
theorem andnN_lt (a b : Nat) : andnN a b < 18446744073709551616 := (BitVec.ofNat 64 a &&& ~~~BitVec.ofNat 64 b).isLt
theorem andnot_u64 {a b : Nat} : IntKind.u64.wrap ((BitVec.ofInt IntKind.u64.bits (a : Int) &&& ~~~BitVec.ofInt IntKind.u64.bits (b : Int)).toNat : Int) = ((andnN a b : Nat) : Int) := by
  show IntKind.u64.wrap ((BitVec.ofInt 64 (a : Int) &&& ~~~BitVec.ofInt 64 (b : Int)).toNat : Int) = _
  rw [BitVec.ofInt_natCast, BitVec.ofInt_natCast]
  exact wrapU (andnN_lt a b)
theorem andnN_zero {a b : Nat} (ha : a < 2 ^ 64) : andnN a b = 0 ↔ ∀ j, a.testBit j = true → b.testBit j = true := by
  have hb : ∀ j, (andnN a b).testBit j = (decide (j < 64) && (a.testBit j && !b.testBit j)) := fun j => by
    show (BitVec.toNat _).testBit j = _
    rw [BitVec.testBit_toNat, BitVec.getLsbD_and, BitVec.getLsbD_not, BitVec.getLsbD_ofNat, BitVec.getLsbD_ofNat]
    by_cases h : j < 64 <;> simp [h]
  constructor
  · intro h j hj
    have h2 := hb j
    rw [h, Nat.zero_testBit, hj] at h2
    have h3 : j < 64 := by
      rcases Nat.lt_or_ge j 64 with h3 | h3
      · exact h3
      · rw [lt_bit ha h3] at hj; cases hj
    cases h4 : b.testBit j with
    | true => rfl
    | false => rw [h4] at h2; simp [h3] at h2
  · intro h
    refine Nat.eq_of_testBit_eq fun j => ?_
    rw [hb, Nat.zero_testBit]
    cases h1 : a.testBit j with
    | false => simp
    | true => rw [h j h1]; simp
theorem and_zero {a b : Nat} : a &&& b = 0 ↔ ∀ j, a.testBit j = true → b.testBit j = false := by
  constructor
  · intro h j hj
    have h2 : (a &&& b).testBit j = false := by rw [h, Nat.zero_testBit]
    rw [Nat.testBit_and, hj] at h2
    simpa using h2
  · intro h
    refine Nat.eq_of_testBit_eq fun j => ?_
    rw [Nat.testBit_and, Nat.zero_testBit]
    cases h1 : a.testBit j with
    | false => simp
    | true => rw [h j h1]; simp

/-! ### Closed sets -/
def closedB (es : List (Int × Int)) (S : Nat) : Bool := es.all fun e => !(S.testBit e.1.toNat && !S.testBit e.2.toNat)
theorem closedB_iff {es : List (Int × Int)} {S : Nat} : closedB es S = true ↔ ∀ e ∈ es, S.testBit e.1.toNat = true → S.testBit e.2.toNat = true := by
  unfold closedB
  rw [List.all_eq_true]
  constructor
  · intro h e he h1
    have := h e he
    rw [h1] at this; simpa using this
  · intro h e he
    cases h1 : S.testBit e.1.toNat with
    | false => simp
    | true => rw [h e he h1]; simp
theorem closedB_hull {n : Nat} {es : List (Int × Int)} (hg : GoodG n es) {S : Nat} (h : closedB es S = true) {x y : Nat} (hx : x < n) (h1 : S.testBit x = true) (h2 : (HN n es x).testBit y = true) : S.testBit y = true := by
  rw [closedB_iff] at h
  have key : ∀ a b : Int, Rch es a b → S.testBit a.toNat = true → S.testBit b.toNat = true := by
    intro a b hr
    induction hr with
    | refl => exact fun h => h
    | step _ e ih => exact fun h3 => h _ e (ih h3)
  have := key x y ((HN_bit hg hx y).1 h2) (by simpa using h1)
  simpa using this
theorem HN_high {n : Nat} {es : List (Int × Int)} (hg : GoodG n es) {x y : Nat} (hx : x < n) (h : (HN n es x).testBit y = true) : y < n := by
  rcases Nat.lt_or_ge y n with h1 | h1
  · exact h1
  · rw [lt_bit (HN_lt hg hx) h1] at h; cases h
theorem closedB_of_hull {n : Nat} {es : List (Int × Int)} (hg : GoodG n es) {S : Nat} (h : ∀ x y, x < n → S.testBit x = true → (HN n es x).testBit y = true → S.testBit y = true) : closedB es S = true := by
  rw [closedB_iff]
  intro e he h1
  obtain ⟨q1, q2, q3, q4⟩ := hg.ins e he
  refine h e.1.toNat e.2.toNat (by omega) h1 ((HN_bit hg (by omega) _).2 ?_)
  refine .step (.refl _) ?_
  rw [Int.toNat_of_nonneg q1, Int.toNat_of_nonneg q3]; exact he

/-! ### Which component can go -/
def okM (n : Nat) (es : List (Int × Int)) (gone i : Nat) : Bool := !gone.testBit i && closedB es (gone ||| compN n es i)
def okP (n : Nat) (es : List (Int × Int)) (gone r : Nat) : Bool := (compN n es r &&& gone == 0) && (andnN (HN n es r) (gone ||| compN n es r) == 0)
structure GoneOK (n : Nat) (es : List (Int × Int)) (gone : Nat) : Prop where
  lt : gone < 2 ^ n
  cl : closedB es gone = true

theorem gone_mut {n : Nat} {es : List (Int × Int)} (hg : GoodG n es) {gone i j : Nat} (h : GoneOK n es gone) (hi : i < n) (hj : j < n) (hm : mutB n es i j = true) : gone.testBit i = gone.testBit j := by
  obtain ⟨h1, h2⟩ := mut_iff.1 hm
  cases h3 : gone.testBit i with
  | true => exact (closedB_hull hg h.cl hi h3 h1).symm
  | false =>
    cases h4 : gone.testBit j with
    | false => rfl
    | true => rw [closedB_hull hg h.cl hj h4 h2] at h3; cases h3
theorem comp_eq {n : Nat} {es : List (Int × Int)} (hg : GoodG n es) {i j : Nat} (hi : i < n) (hj : j < n) (hm : mutB n es i j = true) : compN n es i = compN n es j := by
  refine Nat.eq_of_testBit_eq fun x => ?_
  rw [compN_bit, compN_bit]
  by_cases hx : x < n
  · have hx' : decide (x < n) = true := decide_eq_true hx
    rw [hx', Bool.true_and, Bool.true_and]
    cases h1 : mutB n es i x with
    | true => exact (mut_trans hg hj hi hx (by rw [mut_symm]; exact hm) h1).symm
    | false =>
      cases h2 : mutB n es j x with
      | false => rfl
      | true => rw [mut_trans hg hi hj hx hm h2] at h1; cases h1
  · simp [hx]
theorem ok_eq {n : Nat} {es : List (Int × Int)} (hg : GoodG n es) (hn : n ≤ 64) {gone r : Nat} (h : GoneOK n es gone) (hr : r < n) : okP n es gone r = okM n es gone r := by
  have h64 : HN n es r < 2 ^ 64 := Nat.lt_of_lt_of_le (HN_lt hg hr) (Nat.pow_le_pow_right (by decide) hn)
  have e1 : (compN n es r &&& gone == 0) = !gone.testBit r := by
    cases hb : gone.testBit r with
    | true =>
      show _ = false
      rw [beq_eq_false_iff_ne]
      intro h0
      have := and_zero.1 h0 r (by rw [compN_bit, mut_self hg hr]; simp [hr])
      rw [hb] at this; cases this
    | false =>
      show _ = true
      rw [beq_iff_eq, and_zero]
      intro j hj
      rw [compN_bit, Bool.and_eq_true, decide_eq_true_eq] at hj
      rw [← gone_mut hg h hr hj.1 hj.2]; exact hb
  have e2 : (andnN (HN n es r) (gone ||| compN n es r) == 0) = closedB es (gone ||| compN n es r) := by
    rw [Bool.eq_iff_iff, beq_iff_eq, andnN_zero h64]
    constructor
    · intro h1
      refine closedB_of_hull hg fun x y hx h2 h3 => ?_
      rw [Nat.testBit_or, Bool.or_eq_true] at h2
      rcases h2 with h2 | h2
      · rw [Nat.testBit_or, closedB_hull hg h.cl hx h2 h3]; rfl
      · rw [compN_bit, Bool.and_eq_true, decide_eq_true_eq] at h2
        exact h1 y (HN_trans hg hr hx (mut_iff.1 h2.2).1 h3)
    · intro h1 j hj
      refine closedB_hull hg h1 hr ?_ hj
      rw [Nat.testBit_or, compN_bit, mut_self hg hr]; simp [hr]
  unfold okP okM
  rw [e1, e2]
theorem gone_step {n : Nat} {es : List (Int × Int)} {gone i : Nat} (h : GoneOK n es gone) (ho : okM n es gone i = true) : GoneOK n es (gone ||| compN n es i) := by
  unfold okM at ho
  rw [Bool.and_eq_true] at ho
  exact ⟨Nat.or_lt_two_pow h.lt compN_lt, ho.2⟩
/-- The first one that can go is the first of its component. -/
theorem ok_rep {n : Nat} {es : List (Int × Int)} (hg : GoodG n es) {gone i : Nat} (h : GoneOK n es gone) (hi : i < n) (ho : okM n es gone i = true) (hf : ∀ j, j < i → okM n es gone j = false) : isRep n es i = true := by
  obtain ⟨r, h1, h2, h3⟩ := rep_ex hg hi
  have : okM n es gone r = true := by
    unfold okM at *
    rw [comp_eq hg (by omega) hi h3, gone_mut hg h (by omega) hi h3]; exact ho
  rcases Nat.lt_or_ge r i with h4 | h4
  · rw [hf r h4] at this; cases this
  · rw [show i = r by omega]; exact h2
/-- As long as a node is left, some component can go. -/
theorem ok_ex {n : Nat} {es : List (Int × Int)} (hg : GoodG n es) {gone : Nat} (h : GoneOK n es gone) {x : Nat} (hx : x < n) (hb : gone.testBit x = false) : ∃ i, i < n ∧ okM n es gone i = true := by
  have key : ∀ c x, x < n → gone.testBit x = false → cardN (HN n es x) n ≤ c → ∃ i, i < n ∧ okM n es gone i = true := by
    intro c
    induction c with
    | zero =>
      intro x hx hb hc
      exfalso
      have h0 : ∀ j, (0 : Nat).testBit j = true → (HN n es x).testBit j = true := fun j hj => by rw [Nat.zero_testBit] at hj; cases hj
      have := (cardN_mono h0 n).2 ⟨x, hx, HN_self hg hx, Nat.zero_testBit x⟩
      omega
    | succ c ih =>
      intro x hx hb hc
      by_cases hex : ∃ y, (HN n es x).testBit y = true ∧ gone.testBit y = false ∧ mutB n es x y = false
      · obtain ⟨y, h1, h2, h3⟩ := hex
        have hy := HN_high hg hx h1
        refine ih y hy h2 ?_
        have hsub : ∀ j, (HN n es y).testBit j = true → (HN n es x).testBit j = true := fun j hj => HN_trans hg hx hy h1 hj
        have hnx : (HN n es y).testBit x = false := by
          cases h4 : (HN n es y).testBit x with
          | false => rfl
          | true => rw [mut_iff.2 ⟨h1, h4⟩] at h3; cases h3
        have := (cardN_mono hsub n).2 ⟨x, hx, HN_self hg hx, hnx⟩
        omega
      · refine ⟨x, hx, ?_⟩
        unfold okM
        rw [hb, Bool.not_false, Bool.true_and]
        refine closedB_of_hull hg fun a b ha h1 h2 => ?_
        rw [Nat.testBit_or, Bool.or_eq_true] at h1
        rcases h1 with h1 | h1
        · rw [Nat.testBit_or, closedB_hull hg h.cl ha h1 h2]; rfl
        · rw [compN_bit, Bool.and_eq_true, decide_eq_true_eq] at h1
          have h3 := HN_trans hg hx ha (mut_iff.1 h1.2).1 h2
          rw [Nat.testBit_or, compN_bit]
          cases h4 : gone.testBit b with
          | true => rfl
          | false =>
            cases h5 : mutB n es x b with
            | true => simp [HN_high hg hx h3]
            | false => exact absurd ⟨b, h3, h4, h5⟩ hex
  exact key _ x hx hb (Nat.le_refl _)

/-! ### One after another -/
def pick (n : Nat) (es : List (Int × Int)) (gone : Nat) : Option Nat := (List.range n).find? (okM n es gone)
theorem pick_some {n : Nat} {es : List (Int × Int)} {gone r : Nat} (h : pick n es gone = some r) : r < n ∧ okM n es gone r = true ∧ ∀ j, j < r → okM n es gone j = false := by
  unfold pick at h
  rw [List.find?_range_eq_some] at h
  obtain ⟨h1, h2, h3⟩ := h
  exact ⟨by simpa using h2, h1, fun j hj => by simpa using h3 j hj⟩
theorem pick_none {n : Nat} {es : List (Int × Int)} {gone : Nat} (h : pick n es gone = none) : ∀ j, j < n → okM n es gone j = false := by
  unfold pick at h
  rw [List.find?_range_eq_none] at h
  intro j hj
  simpa using h j hj
def peelSt (n : Nat) (es : List (Int × Int)) : Nat → List Nat × Nat
  | 0 => ([], 0)
  | k + 1 => match pick n es (peelSt n es k).2 with
    | none => peelSt n es k
    | some r => ((peelSt n es k).1 ++ [r], (peelSt n es k).2 ||| compN n es r)
theorem gone_zero (n : Nat) (es : List (Int × Int)) : GoneOK n es 0 := ⟨Nat.pow_pos (by decide), closedB_iff.2 fun e _ h => by rw [Nat.zero_testBit] at h; cases h⟩
theorem peel_ok (n : Nat) (es : List (Int × Int)) : ∀ k, GoneOK n es (peelSt n es k).2
  | 0 => gone_zero n es
  | k + 1 => by
    have ih := peel_ok n es k
    unfold peelSt
    split
    · exact ih
    · rename_i r h
      exact gone_step ih (pick_some h).2.1

theorem filter_out {p : Nat → Bool} {r : Nat} : ∀ {l : List Nat}, l.Nodup → r ∈ l → p r = true → (l.filter fun x => p x && !(x == r)).length + 1 = (l.filter p).length := by
  intro l
  induction l with
  | nil => intro _ h; cases h
  | cons a l ih =>
    intro hn hm hp
    obtain ⟨h1, h2⟩ := List.nodup_cons.1 hn
    by_cases har : a = r
    · subst har
      rw [List.filter_cons_of_neg (by simp), List.filter_cons_of_pos hp, List.length_cons]
      congr 2
      refine List.filter_congr fun x hx => ?_
      have : x ≠ a := fun h => h1 (h ▸ hx)
      simp [this]
    · have hm2 : r ∈ l := by rcases List.mem_cons.1 hm with h | h; exact absurd h.symm har; exact h
      have := ih h2 hm2 hp
      cases hpa : p a with
      | true => rw [List.filter_cons_of_pos (by simp [hpa, har]), List.filter_cons_of_pos hpa, List.length_cons, List.length_cons]; omega
      | false => rw [List.filter_cons_of_neg (by simp [hpa]), List.filter_cons_of_neg (by simp [hpa])]; exact this
/-- How many components are left. -/
def leftN (n : Nat) (es : List (Int × Int)) (gone : Nat) : Nat := ((reps n es n).filter fun r => !gone.testBit r).length
theorem reps_nodup (n : Nat) (es : List (Int × Int)) (k : Nat) : (reps n es k).Nodup := List.Pairwise.filter _ List.nodup_range
theorem left_step {n : Nat} {es : List (Int × Int)} (hg : GoodG n es) {gone r : Nat} (h : GoneOK n es gone) (hp : pick n es gone = some r) : leftN n es (gone ||| compN n es r) + 1 = leftN n es gone := by
  obtain ⟨h1, h2, h3⟩ := pick_some hp
  have hrep := ok_rep hg h h1 h2 h3
  have hb : gone.testBit r = false := by unfold okM at h2; rw [Bool.and_eq_true] at h2; simpa using h2.1
  unfold leftN
  rw [← filter_out (p := fun r => !gone.testBit r) (reps_nodup n es n) (mem_reps.2 ⟨h1, hrep⟩) (by simp [hb])]
  congr 2
  refine List.filter_congr fun x hx => ?_
  obtain ⟨h4, h5⟩ := mem_reps.1 hx
  rw [Nat.testBit_or, compN_bit]
  have hd : decide (x < n) = true := decide_eq_true h4
  rw [hd, Bool.true_and]
  by_cases hxr : x = r
  · subst hxr; rw [mut_self hg h4]; simp
  · have : mutB n es r x = false := by
      cases hm : mutB n es r x with
      | false => rfl
      | true => exact absurd (rep_uniq hg h4 h4 h1 h5 (mut_self hg h4) hrep hm) hxr
    rw [this]; simp [hxr]
theorem left_pick {n : Nat} {es : List (Int × Int)} (hg : GoodG n es) {gone : Nat} (h : GoneOK n es gone) (hl : leftN n es gone ≠ 0) : ∃ r, pick n es gone = some r := by
  unfold leftN at hl
  obtain ⟨r, hr⟩ := List.exists_mem_of_length_pos (Nat.pos_of_ne_zero hl)
  rw [List.mem_filter] at hr
  obtain ⟨i, h1, h2⟩ := ok_ex hg h (mem_reps.1 hr.1).1 (by simpa using hr.2)
  cases hp : pick n es gone with
  | some r => exact ⟨r, rfl⟩
  | none => rw [pick_none hp i h1] at h2; cases h2
theorem left_none {n : Nat} {es : List (Int × Int)} (hg : GoodG n es) {gone : Nat} (h : GoneOK n es gone) (hl : leftN n es gone = 0) : gone = 2 ^ n - 1 := by
  refine Nat.eq_of_testBit_eq fun j => ?_
  rw [Nat.testBit_two_pow_sub_one]
  by_cases hj : j < n
  · rw [decide_eq_true hj]
    obtain ⟨r, h1, h2, h3⟩ := rep_ex hg hj
    rw [← gone_mut hg h (by omega) hj h3]
    cases hb : gone.testBit r with
    | true => rfl
    | false =>
      have : r ∈ (reps n es n).filter fun r => !gone.testBit r := List.mem_filter.2 ⟨mem_reps.2 ⟨by omega, h2⟩, by simp [hb]⟩
      unfold leftN at hl
      rw [List.eq_nil_of_length_eq_zero hl] at this; cases this
  · rw [decide_eq_false hj]; exact lt_bit h.lt (by omega)
theorem pick_full {n : Nat} {es : List (Int × Int)} : pick n es (2 ^ n - 1) = none := by
  unfold pick
  rw [List.find?_range_eq_none]
  intro j hj
  unfold okM
  rw [Nat.testBit_two_pow_sub_one, decide_eq_true hj]; rfl

/-- The number of components. -/
def cN (n : Nat) (es : List (Int × Int)) : Nat := (reps n es n).length
theorem peel_left {n : Nat} {es : List (Int × Int)} (hg : GoodG n es) : ∀ k, k ≤ cN n es → leftN n es (peelSt n es k).2 = cN n es - k ∧ (peelSt n es k).1.length = k := by
  intro k
  induction k with
  | zero =>
    intro _
    refine ⟨?_, rfl⟩
    unfold leftN cN peelSt
    rw [List.filter_eq_self.2 fun x _ => by simp, Nat.sub_zero]
  | succ k ih =>
    intro hk
    obtain ⟨i1, i2⟩ := ih (by omega)
    obtain ⟨r, hr⟩ := left_pick hg (peel_ok n es k) (by omega)
    have := left_step hg (peel_ok n es k) hr
    unfold peelSt
    rw [hr]
    dsimp only
    refine ⟨by omega, ?_⟩
    rw [List.length_append, i2]; rfl
theorem peel_pick {n : Nat} {es : List (Int × Int)} (hg : GoodG n es) {k : Nat} (hk : k < cN n es) : ∃ r, pick n es (peelSt n es k).2 = some r ∧ peelSt n es (k + 1) = ((peelSt n es k).1 ++ [r], (peelSt n es k).2 ||| compN n es r) := by
  obtain ⟨r, hr⟩ := left_pick hg (peel_ok n es k) (by have := (peel_left hg k (by omega)).1; omega)
  refine ⟨r, hr, ?_⟩
  rw [peelSt, hr]
theorem peel_full {n : Nat} {es : List (Int × Int)} (hg : GoodG n es) : (peelSt n es (cN n es)).2 = 2 ^ n - 1 := left_none hg (peel_ok n es _) (by have := (peel_left hg _ (Nat.le_refl _)).1; omega)
theorem peel_take {n : Nat} {es : List (Int × Int)} (hg : GoodG n es) : ∀ k, k ≤ cN n es → ∀ i, i ≤ k → (peelSt n es k).1.take i = (peelSt n es i).1 := by
  intro k
  induction k with
  | zero => intro _ i hi; rw [show i = 0 by omega]; rfl
  | succ k ih =>
    intro hk i hi
    obtain ⟨r, hr, he⟩ := peel_pick hg (k := k) (by omega)
    have hl := (peel_left hg k (by omega)).2
    by_cases hik : i = k + 1
    · subst hik
      have hl2 := (peel_left hg (k + 1) hk).2
      rw [List.take_of_length_le (by omega)]
    · rw [he]
      show List.take i ((peelSt n es k).1 ++ [r]) = _
      rw [List.take_append_of_le_length (by omega)]
      exact ih (by omega) i (by omega)
theorem peel_at {n : Nat} {es : List (Int × Int)} (hg : GoodG n es) {i : Nat} (hi : i < cN n es) : ∃ r, (peelSt n es (cN n es)).1[i]? = some r ∧ r < n ∧ (peelSt n es (i + 1)).2 = (peelSt n es i).2 ||| compN n es r := by
  obtain ⟨r, hr, he⟩ := peel_pick hg hi
  refine ⟨r, ?_, (pick_some hr).1, by rw [he]⟩
  have h1 := peel_take hg _ (Nat.le_refl _) (i + 1) hi
  rw [he] at h1
  have hl := (peel_left hg i (by omega)).2
  have h2 : ((peelSt n es (cN n es)).1.take (i + 1))[i]? = some r := by
    rw [h1, List.getElem?_append_right (by omega), hl, Nat.sub_self]; rfl
  rwa [List.getElem?_take_of_lt (by omega)] at h2
theorem peel_in {n : Nat} {es : List (Int × Int)} : ∀ k, ∀ r ∈ (peelSt n es k).1, r < n
  | 0, r, h => by cases h
  | k + 1, r, h => by
    have ih := peel_in (n := n) (es := es) k
    unfold peelSt at h
    split at h
    · exact ih r h
    · rename_i x hx
      rcases List.mem_append.1 h with h | h
      · exact ih r h
      · rw [List.mem_singleton.1 h]; exact (pick_some hx).1
end Go.Ev

/- graph.Components, removable.Peel. -/
namespace Go.Ev
open Go Go.Proofs
set_option linter.unusedSimpArgs false
set_option linter.unusedVariables false
set_option maxRecDepth 100000
set_option maxHeartbeats 4000000
attribute [local irreducible] wpOps wpC wpD wpF wpLoop wpCall seqK blockK loopK retK T.put T.get T.setF

theorem f40_spec [Sorts Tryd.prog] (n : Nat) (es : List (Int × Int)) (ev : Value) (s : HS) (hs : Sl s 2 ev (es.map encE)) (hc : checkR n es = 0) :
    wpF Tryd.prog s.nx 40 [vG n ev] s (fun v s' => ∃ ov : Value, v = .tuple #[ov, .int .i64 0] ∧ Lls s' ov (compsL n es n)) := by
  have hg := good_of hc
  refine wpF_of Tryd.func40 rfl rfl rfl rfl (Nat.le_refl _) ?_
  simp only [paramsA, vG]
  repeat (first
  | with_reducible first | apply ops_end | apply d_end | apply k_seq | apply k_seq_ret | apply k_seq_exit | apply k_block | apply k_block_ret | apply k_block_here | apply c_seq | apply c_block | apply c_region | apply c_skip | apply c_ret | apply c_exit | apply c_loop | apply k_loop_exit | apply k_loop_ret | apply if_t | apply if_f
  | (with_reducible apply k_block_on
     · decide)
  | ((with_reducible first | apply xOp | apply xDr | apply xIf); rfl; (simp only [Nat.reduceEqDiff, Nat.reduceAdd, ↓reduceIte, xBB, stG, opA, val, opdA, opdO, plainN, omap, binA, intBinA, loadV, readA, storeV, writeA, fieldAddrA, indexAddrA, lenA, builtinA, newA, unA, packA, Value.cells, ty28, cutL]; rfl); first | rfl | exact ⟨rfl, rfl, rfl⟩))
  have hA0 := Ab.new (lk := s.nx) s (.cells true 28 [.int .i64 n, ev])
  ((with_reducible first | apply xCa | apply xCd); rfl; (simp only [Nat.reduceEqDiff, Nat.reduceAdd, ↓reduceIte, xBB, stB, opdA, opdO, plainN, omap, val, Value.cells]; exact ⟨rfl, rfl⟩); try rfl)
  apply call_fn
  refine (f36_spec n es ev _ (hs.keep hA0)).use (by first | exact Nat.le_refl _ | (simp only [cond_true, cond_false]; omega) | omega | (dsimp only; omega)) (by first | exact Nat.le_refl _ | (simp only [cond_true, cond_false]; omega) | omega | (dsimp only; omega)) fun v s1 hv hA1 => ?_
  subst hv
  have hbox := hA1.get (Nat.le_refl _) (Nat.lt_succ_self s.nx)
  rw [T.get_put_eq] at hbox
  have hA01 := hA0.trans (hA1.lower (Nat.le_succ _) (Nat.le_refl _))
  have hc' : (checkR n es != 0) = false := by simp [hc]
  refine opt_of rfl ?_
  repeat (first
  | with_reducible first | apply ops_end | apply d_end | apply k_seq | apply k_seq_ret | apply k_seq_exit | apply k_block | apply k_block_ret | apply k_block_here | apply c_seq | apply c_block | apply c_region | apply c_skip | apply c_ret | apply c_exit | apply c_loop | apply k_loop_exit | apply k_loop_ret | apply if_t | apply if_f
  | (with_reducible apply k_block_on
     · decide)
  | ((with_reducible first | apply xOp | apply xDr | apply xIf); rfl; (simp only [Nat.reduceEqDiff, Nat.reduceAdd, ↓reduceIte, xBB, stG, opA, val, opdA, opdO, plainN, omap, binA, intBinA, loadV, readA, storeV, writeA, fieldAddrA, indexAddrA, lenA, builtinA, newA, unA, packA, Value.cells, hc', ty28, hbox, cutL]; rfl); first | rfl | exact ⟨rfl, rfl, rfl⟩))
  ((with_reducible first | apply xCa | apply xCd); rfl; (simp only [Nat.reduceEqDiff, Nat.reduceAdd, ↓reduceIte, xBB, stB, opdA, opdO, plainN, omap, val, Value.cells]; exact ⟨rfl, rfl⟩); try rfl)
  apply call_fn
  refine (f50_spec n es ev s1 (hs.keep hA01) hg).use hA01.nx (Nat.le_refl _) fun v s2 hv hA2 => ?_
  obtain ⟨ov, fv, L, rfl, hl, hf, hOK⟩ := hv
  refine opt_of rfl ?_
  repeat (first
  | with_reducible first | apply ops_end | apply d_end | apply k_seq | apply k_seq_ret | apply k_seq_exit | apply k_block | apply k_block_ret | apply k_block_here | apply c_seq | apply c_block | apply c_region | apply c_skip | apply c_ret | apply c_exit | apply c_loop | apply k_loop_exit | apply k_loop_ret | apply if_t | apply if_f
  | (with_reducible apply k_block_on
     · decide)
  | ((with_reducible first | apply xOp | apply xDr | apply xIf); rfl; (simp only [Nat.reduceEqDiff, Nat.reduceAdd, ↓reduceIte, xBB, stG, opA, val, opdA, opdO, plainN, omap, binA, intBinA, loadV, readA, storeV, writeA, fieldAddrA, indexAddrA, lenA, builtinA, newA, unA, packA, Value.cells]; rfl); first | rfl | exact ⟨rfl, rfl, rfl⟩))
  intro _
  ((with_reducible first | apply ret_i | apply ret_n); (simp only [Nat.reduceEqDiff, Nat.reduceAdd, ↓reduceIte, xBB, resA, opdA, opdO, plainN, omap, val, loadV, readA, packA]; rfl))
  exact ⟨ov, rfl, hl⟩

theorem lt64 {a n : Nat} (h : a < 2 ^ n) (hn : n ≤ 64) : a < 18446744073709551616 := by
  have h2 : 2 ^ n ≤ 2 ^ 64 := Nat.pow_le_pow_right (by decide) hn
  exact Nat.lt_of_lt_of_le h h2
/-- The rows of some components. -/
def rowsL (n : Nat) (es : List (Int × Int)) (R : List Nat) : List (List Int) := R.map fun r => nodesL (compN n es r) n
theorem compsL_at {n : Nat} {es : List (Int × Int)} {q r : Nat} (h : (reps n es n)[q]? = some r) : (compsL n es n)[q]? = some (nodesL (compN n es r) n) := by unfold compsL; rw [List.getElem?_map, h]; rfl
theorem nodesL_first {a r : Nat} (h0 : nodesL a r = []) (hb : a.testBit r = true) : ∀ n, r < n → (nodesL a n)[0]? = some (r : Int) := by
  intro n
  induction n with
  | zero => intro h; omega
  | succ n ih =>
    intro h
    rw [nodesL_succ]
    by_cases hrn : r = n
    · subst hrn; rw [h0, hb]; rfl
    · have := ih (by omega)
      rw [List.getElem?_append_left (List.getElem?_eq_some_iff.1 this).1]; exact this
theorem reps_at {n : Nat} {es : List (Int × Int)} {q r : Nat} (h : (reps n es n)[q]? = some r) : r < n ∧ isRep n es r = true := mem_reps.1 (List.mem_of_getElem? h)
/-- Where the first one that can go stands among the first nodes. -/
theorem pick_at {n : Nat} {es : List (Int × Int)} (hg : GoodG n es) (hn : n ≤ 64) {gone r : Nat} (h : GoneOK n es gone) (hp : pick n es gone = some r) : ∃ i, (reps n es n)[i]? = some r ∧ okP n es gone r = true ∧
    ∀ q x : Nat, (reps n es n)[q]? = some x → okP n es gone x = true → i ≤ q := by
  obtain ⟨h1, h2, h3⟩ := pick_some hp
  have hrep := ok_rep hg h h1 h2 h3
  obtain ⟨i, hi⟩ := List.getElem?_of_mem (mem_reps.2 ⟨h1, hrep⟩)
  refine ⟨i, hi, by rw [ok_eq hg hn h h1]; exact h2, fun q x hq hx => ?_⟩
  have hxn := (reps_at hq).1
  rw [ok_eq hg hn h hxn] at hx
  have hle : r ≤ x := Nat.le_of_not_lt fun hlt => by rw [h3 x hlt] at hx; cases hx
  have hs : (reps n es n).Pairwise (fun a b => a < b) := List.Pairwise.filter _ List.pairwise_lt_range
  refine Nat.le_of_not_lt fun hlt => ?_
  have h4 := List.pairwise_iff_getElem.1 hs q i (List.getElem?_eq_some_iff.1 hq).1 (List.getElem?_eq_some_iff.1 hi).1 hlt
  rw [(List.getElem?_eq_some_iff.1 hq).2, (List.getElem?_eq_some_iff.1 hi).2] at h4
  omega

theorem f25_spec [Sorts Tryd.prog] (n : Nat) (es : List (Int × Int)) (ev : Value) (s : HS) (hs : Sl s 2 ev (es.map encE)) (hc : checkR n es = 0) :
    wpF Tryd.prog s.nx 25 [vG n ev] s (fun v s' => ∃ ov : Value, v = .tuple #[ov, .int .i64 0] ∧ Lls s' ov (rowsL n es (peelSt n es (cN n es)).1)) := by
  have hg := good_of hc
  have hn64 : n ≤ 64 := by have := hg.hi; omega
  have hcn : cN n es ≤ n := reps_len n
  refine wpF_of Tryd.func25 rfl rfl rfl rfl (Nat.le_refl _) ?_
  simp only [paramsA, vG]
  repeat (first
  | with_reducible first | apply ops_end | apply d_end | apply k_seq | apply k_seq_ret | apply k_seq_exit | apply k_block | apply k_block_ret | apply k_block_here | apply c_seq | apply c_block | apply c_region | apply c_skip | apply c_ret | apply c_exit | apply c_loop | apply k_loop_exit | apply k_loop_ret | apply if_t | apply if_f
  | (with_reducible apply k_block_on
     · decide)
  | ((with_reducible first | apply xOp | apply xDr | apply xIf); rfl; (simp only [Nat.reduceEqDiff, Nat.reduceAdd, ↓reduceIte, xBB, stG, opA, val, opdA, opdO, plainN, omap, binA, intBinA, loadV, readA, storeV, writeA, fieldAddrA, indexAddrA, lenA, builtinA, newA, unA, packA, Value.cells, ty28, cutL]; rfl); first | rfl | exact ⟨rfl, rfl, rfl⟩))
  have hA0 := Ab.new (lk := s.nx) s (.cells true 28 [.int .i64 n, ev])
  ((with_reducible first | apply xCa | apply xCd); rfl; (simp only [Nat.reduceEqDiff, Nat.reduceAdd, ↓reduceIte, xBB, stB, opdA, opdO, plainN, omap, val, Value.cells]; exact ⟨rfl, rfl⟩); try rfl)
  apply call_fn
  refine (f40_spec n es ev _ (hs.keep hA0) hc).use (by first | exact Nat.le_refl _ | (simp only [cond_true, cond_false]; omega) | omega | (dsimp only; omega)) (by first | exact Nat.le_refl _ | (simp only [cond_true, cond_false]; omega) | omega | (dsimp only; omega)) fun v s1 hv hA1 => ?_
  obtain ⟨ov, rfl, hl1⟩ := hv
  obtain ⟨rb, rc, rfl⟩ := hl1.shape
  have hbox := hA1.get (Nat.le_refl _) (Nat.lt_succ_self s.nx)
  rw [T.get_put_eq] at hbox
  have hA01 := hA0.trans (hA1.lower (Nat.le_succ _) (Nat.le_refl _))
  have h00 : ((0 : Int) != 0) = false := rfl
  refine opt_of rfl ?_
  repeat (first
  | with_reducible first | apply ops_end | apply d_end | apply k_seq | apply k_seq_ret | apply k_seq_exit | apply k_block | apply k_block_ret | apply k_block_here | apply c_seq | apply c_block | apply c_region | apply c_skip | apply c_ret | apply c_exit | apply c_loop | apply k_loop_exit | apply k_loop_ret | apply if_t | apply if_f
  | (with_reducible apply k_block_on
     · decide)
  | ((with_reducible first | apply xOp | apply xDr | apply xIf); rfl; (simp only [Nat.reduceEqDiff, Nat.reduceAdd, ↓reduceIte, xBB, stG, opA, val, opdA, opdO, plainN, omap, binA, intBinA, loadV, readA, storeV, writeA, fieldAddrA, indexAddrA, lenA, builtinA, newA, unA, packA, Value.cells, ty28, hbox, cutL, h00]; rfl); first | rfl | exact ⟨rfl, rfl, rfl⟩))
  ((with_reducible first | apply xCa | apply xCd); rfl; (simp only [Nat.reduceEqDiff, Nat.reduceAdd, ↓reduceIte, xBB, stB, opdA, opdO, plainN, omap, val, Value.cells]; exact ⟨rfl, rfl⟩); try rfl)
  apply call_fn
  refine (f31_spec n es ev s1 (hs.keep hA01) hc).use hA01.nx (Nat.le_refl _) fun v s2 hv hA2 => ?_
  obtain ⟨oh, hh2⟩ := hv
  obtain ⟨hb, hcp, rfl⟩ := hh2.shape
  have hl2 := hl1.keep hA2
  have hlen : (compsL n es n).length = cN n es := compsL_len n es n
  have hn2 := hA2.nx
  rw [hlen] at hl2
  refine opt_of rfl ?_
  repeat (first
  | with_reducible first | apply ops_end | apply d_end | apply k_seq | apply k_seq_ret | apply k_seq_exit | apply k_block | apply k_block_ret | apply k_block_here | apply c_seq | apply c_block | apply c_region | apply c_skip | apply c_ret | apply c_exit | apply c_loop | apply k_loop_exit | apply k_loop_ret | apply if_t | apply if_f
  | (with_reducible apply k_block_on
     · decide)
  | ((with_reducible first | apply xOp | apply xDr | apply xIf); rfl; (simp only [Nat.reduceEqDiff, Nat.reduceAdd, ↓reduceIte, xBB, stG, opA, val, opdA, opdO, plainN, omap, binA, intBinA, loadV, readA, storeV, writeA, fieldAddrA, indexAddrA, lenA, builtinA, newA, unA, packA, Value.cells, hlen]; rfl); first | rfl | exact ⟨rfl, rfl, rfl⟩))
  refine loop_k (lk' := s2.nx) (s0 := s2) (fun m f t => ∃ k : Nat, k + m = cN n es ∧ f.get 8 = some (.int .u64 ((peelSt n es k).2 : Nat)) ∧ ∃ (o : Option Nat) (v : Value), f.get 7 = some v ∧ Bld t (fun _ => False) o v (rowsL n es (peelSt n es k).1) ∧ ∀ id, o = some id → s2.nx ≤ id) (cN n es) (by have := hA01.nx; omega) (Nat.le_refl _) ?_ (Ab.refl _ _) ?_
  · exact ⟨0, by omega, by simp only [Nat.reduceEqDiff, T.get_put, ↓reduceIte]; rfl, none, .slice none 0 0, by simp only [Nat.reduceEqDiff, T.get_put, ↓reduceIte], Bld.nil, fun id h => by cases h⟩
  · rintro m f t ⟨k, hk, h8, o, v, h7, hB, ho⟩ hA hF
    (have k4 := hF 4 (by rfl); simp only [Nat.reduceEqDiff, T.get_put, ↓reduceIte, hlen] at k4; have k6 := hF 6 (by rfl); simp only [Nat.reduceEqDiff, T.get_put, ↓reduceIte, hlen] at k6)
    have hnt := hA.nx
    have hkl : (rowsL n es (peelSt n es k).1).length = k := by unfold rowsL; rw [List.length_map]; exact (peel_left hg k (by omega)).2
    obtain ⟨vb, vc, hv⟩ := hB.shape
    rw [hkl] at hv
    subst hv
    by_cases hlt : (k : Int) < ((cN n es : Nat) : Int)
    · have hlt' : k < cN n es := by omega
      repeat (first
  | with_reducible first | apply ops_end | apply d_end | apply k_seq | apply k_seq_ret | apply k_seq_exit | apply k_block | apply k_block_ret | apply k_block_here | apply c_seq | apply c_block | apply c_region | apply c_skip | apply c_ret | apply c_exit | apply c_loop | apply k_loop_exit | apply k_loop_ret | apply if_t | apply if_f
  | (with_reducible apply k_block_on
     · decide)
  | ((with_reducible first | apply xOp | apply xDr | apply xIf); rfl; (simp only [Nat.reduceEqDiff, Nat.reduceAdd, ↓reduceIte, xBB, stG, opA, val, opdA, opdO, plainN, omap, binA, intBinA, loadV, readA, storeV, writeA, fieldAddrA, indexAddrA, lenA, builtinA, newA, unA, packA, Value.cells, h7, un30, k4, hlt]; rfl); first | rfl | exact ⟨rfl, rfl, rfl⟩))
      obtain ⟨r, hr, he⟩ := peel_pick hg hlt'
      have hgone := peel_ok n es k
      obtain ⟨i0, hi0, hok0, hfirst⟩ := pick_at hg hn64 hgone hr
      have hi0c : i0 < cN n es := (List.getElem?_eq_some_iff.1 hi0).1
      generalize hG : (peelSt n es k).2 = gone at *
      have hglt : gone < 18446744073709551616 := lt64 hgone.lt hn64
      have hl3 := hl2.same hnt fun id h => hA.get (Nat.le_refl _) h
      have hhu : Sl t 1 _ _ := hh2.sl.same hnt fun id h => hA.get (Nat.le_refl _) h
      have c4 := k4; have c6 := k6
      refine loop_k (lk' := s2.nx) (s0 := t) (fun m f u => u = t ∧ ∃ q : Nat, q + m = cN n es ∧ f.get 29 = some (.int .i64 q) ∧ q ≤ i0 ∧ f.get 7 = some (.slice vb k vc) ∧ f.get 8 = some (.int .u64 gone)) (cN n es) (Nat.le_refl _) hnt ?_ (Ab.refl _ _) ?_
      · exact ⟨rfl, 0, by omega, by simp only [Nat.reduceEqDiff, T.get_put, ↓reduceIte]; rfl, Nat.zero_le _, by simp only [Nat.reduceEqDiff, T.get_put, ↓reduceIte]; exact h7, by simp only [Nat.reduceEqDiff, T.get_put, ↓reduceIte]; exact h8⟩
      · clear hF
        clear h7 h8
        rintro m2 f2 u ⟨rfl, q, hq, h29, hqi, h7, h8⟩ hA2' hF
        (have k4 := hF 4 (by rfl); simp only [Nat.reduceEqDiff, T.get_put, ↓reduceIte, c4, c6] at k4; have k6 := hF 6 (by rfl); simp only [Nat.reduceEqDiff, T.get_put, ↓reduceIte, c4, c6] at k6; have k27 := hF 27 (by rfl); simp only [Nat.reduceEqDiff, T.get_put, ↓reduceIte, c4, c6] at k27; have k28 := hF 28 (by rfl); simp only [Nat.reduceEqDiff, T.get_put, ↓reduceIte, c4, c6] at k28)
        have hqc : (q : Int) < ((cN n es : Nat) : Int) := by omega
        have hqr : q < (reps n es n).length := by have := hi0c; unfold cN at this; omega
        obtain ⟨x, hx⟩ : ∃ x, (reps n es n)[q]? = some x := ⟨_, List.getElem?_eq_getElem hqr⟩
        obtain ⟨hxn, hxr⟩ := reps_at hx
        obtain ⟨id, off, wr, e, cs, lb, lc, rfl, g1', g2', g3, g4'⟩ := hl2.at (compsL_at hx)
        have g1 := (hA.get (Nat.le_refl _) g2').trans g1'
        have g4 := g4'.same hnt fun id h => hA.get (Nat.le_refl _) h
        have hrow0 := nodesL_first (a := compN n es x) (r := x) (by
          refine List.eq_nil_iff_forall_not_mem.2 fun y hy => ?_
          obtain ⟨h1, h2, h3⟩ := mem_nodesL.1 hy
          rw [compN_bit, isRep_iff.1 hxr y.toNat (by omega)] at h3; simp at h3) (by rw [compN_bit, mut_self hg hxn]; simp [hxn]) n hxn
        obtain ⟨id1, off1, wr1, e1, cs1, rfl, a1, a2, a3, a4⟩ := g4.at (i := 0) (x := encI x) (by rw [List.getElem?_map, hrow0]; rfl)
        obtain ⟨id2, off2, wr2, e2, cs2, rfl, b1, b2, b3, b4⟩ := hhu.at (i := x) (x := [.int .u64 (HN n es x)]) (by unfold hullsL; rw [List.getElem?_map, List.getElem?_range hxn]; rfl)
        have a3' : cutL cs1 (off1 + Int.toNat 0 * 1) 1 = some [Value.int .i64 (x : Int)] := a3
        have hhl : (hullsL n es).length = n := by unfold hullsL; simp
        have hb1 : (0 : Int) ≤ (q : Int) ∧ (q : Int) < ((cN n es : Nat) : Int) := by omega
        have hb2 : (0 : Int) ≤ (x : Int) ∧ (x : Int) < (n : Int) := by omega
        have hb0 : (0 : Int) ≤ 0 ∧ (0 : Int) < (((nodesL (compN n es x) n).map encI).length : Int) := by
          have := (List.getElem?_eq_some_iff.1 hrow0).1
          rw [List.length_map]; omega
        have hown64 : compN n es x < 18446744073709551616 := lt64 compN_lt hn64
        have hw : IntKind.i64.wrap ((q : Int) + 1) = ((q + 1 : Nat) : Int) := by rw [IntWalk.i64_in _ (by omega)]; rfl
        have hand := and_u64 hown64 hglt
        have hor := or_u64 hglt hown64
        have hanot := andnot_u64 (a := HN n es x) (b := gone ||| compN n es x)
        repeat (first
  | with_reducible first | apply ops_end | apply d_end | apply k_seq | apply k_seq_ret | apply k_seq_exit | apply k_block | apply k_block_ret | apply k_block_here | apply c_seq | apply c_block | apply c_region | apply c_skip | apply c_ret | apply c_exit | apply c_loop | apply k_loop_exit | apply k_loop_ret | apply if_t | apply if_f
  | (with_reducible apply k_block_on
     · decide)
  | ((with_reducible first | apply xOp | apply xDr | apply xIf); rfl; (simp only [Nat.reduceEqDiff, Nat.reduceAdd, ↓reduceIte, xBB, stG, opA, val, opdA, opdO, plainN, omap, binA, intBinA, loadV, readA, storeV, writeA, fieldAddrA, indexAddrA, lenA, builtinA, newA, unA, packA, Value.cells, h29, k27, k28, hqc, un30, sz35, ty35, hb1, g1, g3]; rfl); first | rfl | exact ⟨rfl, rfl, rfl⟩))
        ((with_reducible first | apply xCa | apply xCd); rfl; (simp only [Nat.reduceEqDiff, Nat.reduceAdd, ↓reduceIte, xBB, stB, opdA, opdO, plainN, omap, val, Value.cells]; exact ⟨rfl, rfl⟩); try rfl)
        apply call_fn
        refine (f41_spec _ _ u g4 (by have := nodesL_len (compN n es x) n; omega) (fun y hy => by obtain ⟨q1, q2, _⟩ := mem_nodesL.1 hy; omega)).use (by first | exact Nat.le_refl _ | (simp only [cond_true, cond_false]; omega) | omega | (dsimp only; omega)) (Nat.le_refl _) fun v u3 hv hA3 => ?_
        obtain ⟨rfl, rfl⟩ := hv
        rw [bits_nodesL compN_lt]
        refine opt_of rfl ?_
        by_cases h1 : compN n es x &&& gone = 0
        · have h1' : ((((compN n es x &&& gone : Nat)) : Int) == 0) = true := by rw [h1]; rfl
          by_cases h2 : andnN (HN n es x) (gone ||| compN n es x) = 0
          · have h2' : (((andnN (HN n es x) (gone ||| compN n es x) : Nat) : Int) == 0) = true := by rw [h2]; rfl
            repeat (first
  | with_reducible first | apply ops_end | apply d_end | apply k_seq | apply k_seq_ret | apply k_seq_exit | apply k_block | apply k_block_ret | apply k_block_here | apply c_seq | apply c_block | apply c_region | apply c_skip | apply c_ret | apply c_exit | apply c_loop | apply k_loop_exit | apply k_loop_ret | apply if_t | apply if_f
  | (with_reducible apply k_block_on
     · decide)
  | ((with_reducible first | apply xOp | apply xDr | apply xIf); rfl; (simp only [Nat.reduceEqDiff, Nat.reduceAdd, ↓reduceIte, xBB, stG, opA, val, opdA, opdO, plainN, omap, binA, intBinA, loadV, readA, storeV, writeA, fieldAddrA, indexAddrA, lenA, builtinA, newA, unA, packA, Value.cells, h8, hand, h1', k6, k4, un35, sz3, ty3, hb0, a1, a3', un65, sz60, ty60, hhl, hb2, b1, b3, hor, hanot, h2', h7, buildSliceA, el30, sz35, zr35, zerosL, fillA]; rfl); first | rfl | exact ⟨rfl, rfl, rfl⟩))
            ((with_reducible first | apply ops_opt | apply xPd); (first | rfl | exact ⟨rfl, rfl⟩); (simp only [Nat.reduceEqDiff, Nat.reduceAdd, ↓reduceIte, xBB, opA, val, opdA, opdO, plainN, omap, binA, intBinA, loadV, readA, storeV, writeA, fieldAddrA, indexAddrA, lenA, builtinA, newA, unA, packA, Value.cells, un30, un35, h7]; rfl))
            have hok : okP n es gone x = true := by unfold okP; rw [h1, h2]; rfl
            have hqe : q = i0 := by have := hfirst q x hx hok; omega
            subst hqe
            rw [hi0] at hx
            cases hx
            generalize hst0 : ({ hp := u3.hp.put u3.nx (some (.cells true 35 (putL ([.slice none 0 0] ++ []) (0 * 1) [.slice (some ⟨id1, off1, none⟩) ((nodesL (compN n es r) n).map encI).length lc]))), nx := u3.nx + 1 } : HS) = w
            have hwn : w.nx = u3.nx + 1 := by rw [← hst0]
            have hwo : ∀ id, id < u3.nx → w.hp.get id = u3.hp.get id := fun id h => by rw [← hst0]; exact T.get_put_ne _ _ _ (by omega)
            have hwy : w.hp.get u3.nx = some (.cells true 35 [.slice (some ⟨id1, off1, none⟩) ((nodesL (compN n es r) n).map encI).length lc]) := by rw [← hst0]; exact T.get_put_eq _ _ _
            have hB4 : Bld w (fun _ => False) o _ _ := hB.same (by omega) (fun id h _ => hwo id h) fun id h => Or.inl h
            refine opt_ex (app_bld (lk := s2.nx) (l := nodesL (compN n es r) n) hB4 ?_ hwy ((SlB.of_sl g4' (bad := fun id => o = some id ∨ False) fun id h => ?_).same (by omega) (fun id h _ => (hwo id (by omega)).trans (hA.get (Nat.le_refl _) h)) fun id h => Or.inl h) (by omega) (fun h => h)) fun qq hq => ?_
            · exact ho
            · rcases h with h | h
              · exact ho id h
              · exact h.elim
            obtain ⟨qv, s5⟩ := qq
            obtain ⟨u1, u2, o', u3', u4⟩ := hq
            dsimp only at u1 u2 u3'
            refine opt_of rfl ?_
            repeat (first
  | with_reducible first | apply ops_end | apply d_end | apply k_seq | apply k_seq_ret | apply k_seq_exit | apply k_block | apply k_block_ret | apply k_block_here | apply c_seq | apply c_block | apply c_region | apply c_skip | apply c_ret | apply c_exit | apply c_loop | apply k_loop_exit | apply k_loop_ret | apply if_t | apply if_f
  | (with_reducible apply k_block_on
     · decide)
  | ((with_reducible first | apply xOp | apply xDr | apply xIf); rfl; (simp only [Nat.reduceEqDiff, Nat.reduceAdd, ↓reduceIte, xBB, stG, opA, val, opdA, opdO, plainN, omap, binA, intBinA, loadV, readA, storeV, writeA, fieldAddrA, indexAddrA, lenA, builtinA, newA, unA, packA, Value.cells, h8, hor]; rfl); first | rfl | exact ⟨rfl, rfl, rfl⟩))
            intro _ _
            repeat (first
  | with_reducible first | apply ops_end | apply d_end | apply k_seq | apply k_seq_ret | apply k_seq_exit | apply k_block | apply k_block_ret | apply k_block_here | apply c_seq | apply c_block | apply c_region | apply c_skip | apply c_ret | apply c_exit | apply c_loop | apply k_loop_exit | apply k_loop_ret | apply if_t | apply if_f
  | (with_reducible apply k_block_on
     · decide)
  | ((with_reducible first | apply xOp | apply xDr | apply xIf); rfl; (simp only [Nat.reduceEqDiff, Nat.reduceAdd, ↓reduceIte, xBB, stG, opA, val, opdA, opdO, plainN, omap, binA, intBinA, loadV, readA, storeV, writeA, fieldAddrA, indexAddrA, lenA, builtinA, newA, unA, packA, Value.cells]; rfl); first | rfl | exact ⟨rfl, rfl, rfl⟩))
            intro _ _
            refine k_loop_next (m' := m - 1) (by omega) ⟨k + 1, by omega, ?_, o', qv, by simp only [Nat.reduceEqDiff, T.get_put, ↓reduceIte], ?_, fun id h => ?_⟩
            · simp only [Nat.reduceEqDiff, T.get_put, ↓reduceIte]; rw [he]
            · have : rowsL n es (peelSt n es (k + 1)).1 = rowsL n es (peelSt n es k).1 ++ [nodesL (compN n es r) n] := by rw [he]; unfold rowsL; rw [List.map_append]; rfl
              rw [this]; exact u3'
            · rcases u4 with rfl | rfl
              · exact ho id h
              · cases h; omega
          · have h2' : (((andnN (HN n es x) (gone ||| compN n es x) : Nat) : Int) == 0) = false := by
              rw [beq_eq_false_iff_ne]; omega
            repeat (first
  | with_reducible first | apply ops_end | apply d_end | apply k_seq | apply k_seq_ret | apply k_seq_exit | apply k_block | apply k_block_ret | apply k_block_here | apply c_seq | apply c_block | apply c_region | apply c_skip | apply c_ret | apply c_exit | apply c_loop | apply k_loop_exit | apply k_loop_ret | apply if_t | apply if_f
  | (with_reducible apply k_block_on
     · decide)
  | ((with_reducible first | apply xOp | apply xDr | apply xIf); rfl; (simp only [Nat.reduceEqDiff, Nat.reduceAdd, ↓reduceIte, xBB, stG, opA, val, opdA, opdO, plainN, omap, binA, intBinA, loadV, readA, storeV, writeA, fieldAddrA, indexAddrA, lenA, builtinA, newA, unA, packA, Value.cells, h8, hand, h1', k6, k4, un35, sz3, ty3, hb0, a1, a3', un65, sz60, ty60, hhl, hb2, b1, b3, hor, hanot, h2', h29, hw]; rfl); first | rfl | exact ⟨rfl, rfl, rfl⟩))
            intro _ _
            refine k_loop_next (m' := m2 - 1) (by omega) ⟨rfl, q + 1, by omega, by simp only [Nat.reduceEqDiff, T.get_put, ↓reduceIte], ?_, by simp only [Nat.reduceEqDiff, T.get_put, ↓reduceIte]; exact h7, by simp only [Nat.reduceEqDiff, T.get_put, ↓reduceIte]; exact h8⟩
            refine Nat.lt_of_le_of_ne hqi fun hqe => ?_
            subst hqe
            rw [hi0] at hx
            cases hx
            unfold okP at hok0
            rw [Bool.and_eq_true, beq_iff_eq, beq_iff_eq] at hok0
            exact h2 hok0.2
        · have h1' : ((((compN n es x &&& gone : Nat)) : Int) == 0) = false := by
            rw [beq_eq_false_iff_ne]; omega
          repeat (first
  | with_reducible first | apply ops_end | apply d_end | apply k_seq | apply k_seq_ret | apply k_seq_exit | apply k_block | apply k_block_ret | apply k_block_here | apply c_seq | apply c_block | apply c_region | apply c_skip | apply c_ret | apply c_exit | apply c_loop | apply k_loop_exit | apply k_loop_ret | apply if_t | apply if_f
  | (with_reducible apply k_block_on
     · decide)
  | ((with_reducible first | apply xOp | apply xDr | apply xIf); rfl; (simp only [Nat.reduceEqDiff, Nat.reduceAdd, ↓reduceIte, xBB, stG, opA, val, opdA, opdO, plainN, omap, binA, intBinA, loadV, readA, storeV, writeA, fieldAddrA, indexAddrA, lenA, builtinA, newA, unA, packA, Value.cells, h8, hand, h1', h29, hw]; rfl); first | rfl | exact ⟨rfl, rfl, rfl⟩))
          intro _ _
          refine k_loop_next (m' := m2 - 1) (by omega) ⟨rfl, q + 1, by omega, by simp only [Nat.reduceEqDiff, T.get_put, ↓reduceIte], ?_, by simp only [Nat.reduceEqDiff, T.get_put, ↓reduceIte]; exact h7, by simp only [Nat.reduceEqDiff, T.get_put, ↓reduceIte]; exact h8⟩
          refine Nat.lt_of_le_of_ne hqi fun hqe => ?_
          subst hqe
          rw [hi0] at hx
          cases hx
          unfold okP at hok0
          rw [Bool.and_eq_true, beq_iff_eq, beq_iff_eq] at hok0
          exact h1 hok0.1
    · repeat (first
  | with_reducible first | apply ops_end | apply d_end | apply k_seq | apply k_seq_ret | apply k_seq_exit | apply k_block | apply k_block_ret | apply k_block_here | apply c_seq | apply c_block | apply c_region | apply c_skip | apply c_ret | apply c_exit | apply c_loop | apply k_loop_exit | apply k_loop_ret | apply if_t | apply if_f
  | (with_reducible apply k_block_on
     · decide)
  | ((with_reducible first | apply xOp | apply xDr | apply xIf); rfl; (simp only [Nat.reduceEqDiff, Nat.reduceAdd, ↓reduceIte, xBB, stG, opA, val, opdA, opdO, plainN, omap, binA, intBinA, loadV, readA, storeV, writeA, fieldAddrA, indexAddrA, lenA, builtinA, newA, unA, packA, Value.cells, h7, un30, k4, hlt]; rfl); first | rfl | exact ⟨rfl, rfl, rfl⟩))
      intro _ _
      repeat (first
  | with_reducible first | apply ops_end | apply d_end | apply k_seq | apply k_seq_ret | apply k_seq_exit | apply k_block | apply k_block_ret | apply k_block_here | apply c_seq | apply c_block | apply c_region | apply c_skip | apply c_ret | apply c_exit | apply c_loop | apply k_loop_exit | apply k_loop_ret | apply if_t | apply if_f
  | (with_reducible apply k_block_on
     · decide)
  | ((with_reducible first | apply xOp | apply xDr | apply xIf); rfl; (simp only [Nat.reduceEqDiff, Nat.reduceAdd, ↓reduceIte, xBB, stG, opA, val, opdA, opdO, plainN, omap, binA, intBinA, loadV, readA, storeV, writeA, fieldAddrA, indexAddrA, lenA, builtinA, newA, unA, packA, Value.cells, h7]; rfl); first | rfl | exact ⟨rfl, rfl, rfl⟩))
      intro _
      ((with_reducible first | apply ret_i | apply ret_n); (simp only [Nat.reduceEqDiff, Nat.reduceAdd, ↓reduceIte, xBB, resA, opdA, opdO, plainN, omap, val, loadV, readA, packA]; rfl))
      have hkn : k = cN n es := by omega
      rw [← hkn]
      exact ⟨_, rfl, hB.lls⟩
end Go.Ev

/- The model: closed, component. -/
namespace Go.Ev
open Go Go.Proofs
set_option linter.unusedSimpArgs false
set_option linter.unusedVariables false
set_option maxRecDepth 100000
set_option maxHeartbeats 4000000
attribute [local irreducible] wpOps wpC wpD wpF wpLoop wpCall seqK blockK loopK retK T.put T.get T.setF

theorem bit_eq0 (a k : Nat) : ((((a >>> k) &&& 1 : Nat) : Int) == 0) = !a.testBit k := by
  have h := bit_eq a k
  have h2 : 1 &&& (a >>> k) = 0 ∨ 1 &&& (a >>> k) = 1 := by
    have : 1 &&& (a >>> k) ≤ 1 := Nat.and_le_left
    omega
  rw [Nat.and_comm] at h2
  rw [← h]
  rcases h2 with h2 | h2 <;> rw [h2] <;> rfl
theorem closedB_take {es : List (Int × Int)} {a k : Nat} (hk : k < es.length) : closedB (es.take (k + 1)) a = (closedB (es.take k) a && !(a.testBit es[k].1.toNat && !a.testBit es[k].2.toNat)) := by
  unfold closedB
  rw [List.take_succ_eq_append_getElem hk, List.all_append]
  simp
theorem closedB_not {es : List (Int × Int)} {a k : Nat} (hk : k < es.length) (h1 : a.testBit es[k].1.toNat = true) (h2 : a.testBit es[k].2.toNat = false) : closedB es a = false := by
  cases h : closedB es a with
  | false => rfl
  | true => rw [closedB_iff.1 h _ (List.getElem_mem hk) h1] at h2; cases h2

theorem f17_spec [Sorts Tryd.prog] (n : Int) (es : List (Int × Int)) (ev : Value) (a : Nat) (s : HS) (hs : Sl s 2 ev (es.map encE)) (hg : GoodG n es) (ha : a < 2 ^ 62) :
    wpF Tryd.prog s.nx 17 [vG n ev, .int .i64 a] s (fun v s' => v = .bool (closedB es a)) := by
  have ha3 : a < 2 ^ 63 := Nat.lt_trans ha (by decide)
  obtain ⟨b, c, rfl⟩ := hs.shape
  obtain ⟨hn0, hn1, hlen, hins⟩ := hg
  refine wpF_of Tryd.func17 rfl rfl rfl rfl (Nat.le_refl _) ?_
  simp only [paramsA, vG]
  repeat (first
  | with_reducible first | apply ops_end | apply d_end | apply k_seq | apply k_seq_ret | apply k_seq_exit | apply k_block | apply k_block_ret | apply k_block_here | apply c_seq | apply c_block | apply c_region | apply c_skip | apply c_ret | apply c_exit | apply c_loop | apply k_loop_exit | apply k_loop_ret | apply if_t | apply if_f
  | (with_reducible apply k_block_on
     · decide)
  | ((with_reducible first | apply xOp | apply xDr | apply xIf); rfl; (simp only [Nat.reduceEqDiff, Nat.reduceAdd, ↓reduceIte, xBB, stG, opA, val, opdA, opdO, plainN, omap, binA, intBinA, loadV, readA, storeV, writeA, fieldAddrA, indexAddrA, lenA, builtinA, newA, unA, packA, Value.cells]; rfl); first | rfl | exact ⟨rfl, rfl, rfl⟩))
  have hA0 := Ab.new (lk := s.nx) s (.cells true 28 [.int .i64 n, .slice b (es.map encE).length c])
  have hs1 := hs.keep hA0
  refine loop_k (lk' := s.nx + 1) (s0 := ⟨_, s.nx + 1⟩) (fun m f t => ∃ k : Nat, k + m = es.length ∧ f.get 5 = some (.int .i64 k) ∧ closedB (es.take k) a = true) es.length (Nat.le_succ _) (Nat.le_refl _) ?_ (Ab.refl _ _) ?_
  · exact ⟨0, by omega, by simp only [Nat.reduceEqDiff, T.get_put, ↓reduceIte]; rfl, rfl⟩
  · rintro m f t ⟨k, hk, h5, hcl⟩ hA hF
    (have k1 := hF 1 (by rfl); simp only [Nat.reduceEqDiff, T.get_put, ↓reduceIte] at k1; have k2 := hF 2 (by rfl); simp only [Nat.reduceEqDiff, T.get_put, ↓reduceIte] at k2)
    have hbox := hA.get (Nat.le_refl _) (Nat.lt_succ_self s.nx)
    rw [T.get_put_eq] at hbox
    have hst := hs1.keep hA
    have hnx := hA.nx
    dsimp only at hnx
    have hc1 : cutL [Value.int .i64 n, Value.slice b (es.map encE).length c] (0 + 1) 1 = some [Value.slice b (es.map encE).length c] := rfl
    by_cases hlt : (k : Int) < ((es.map encE).length : Int)
    · have hjl' : k < es.length := by simp at hlt; omega
      obtain ⟨id, off, wr, e, cs, rfl, g1, g2, g3, g4⟩ := hst.at (i := k) (x := encE es[k]) (by simp [hjl'])
      have hb : (0 : Int) ≤ (k : Int) ∧ (k : Int) < ((es.map encE).length : Int) := ⟨by omega, hlt⟩
      have hw : IntKind.i64.wrap ((k : Int) + 1) = ((k + 1 : Nat) : Int) := by rw [IntWalk.i64_in _ (by omega)]; rfl
      obtain ⟨q1, q2, q3, q4⟩ := hins es[k] (List.getElem_mem hjl')
      obtain ⟨x, hx⟩ : ∃ x : Nat, es[k].1 = (x : Int) := ⟨es[k].1.toNat, by omega⟩
      obtain ⟨y, hy⟩ : ∃ y : Nat, es[k].2 = (y : Int) := ⟨es[k].2.toNat, by omega⟩
      simp only [encE, hx, hy] at g3
      obtain ⟨p3, p4⟩ := cut_pair g3
      rw [Nat.add_assoc] at p4
      have hsh := shr_i64 (a := a) (k := x) ha3
      have hand := and_one (a := a >>> x) (shr_lt ha3)
      have hbit := bit_eq a x
      have hsh2 := shr_i64 (a := a) (k := y) ha3
      have hand2 := and_one (a := a >>> y) (shr_lt ha3)
      have hbit2 := bit_eq0 a y
      have hnext := closedB_take (a := a) hjl'
      rw [hcl, hx, hy, Int.toNat_natCast, Int.toNat_natCast, Bool.true_and] at hnext
      cases hb1 : a.testBit x with
      | false =>
        repeat (first
  | with_reducible first | apply ops_end | apply d_end | apply k_seq | apply k_seq_ret | apply k_seq_exit | apply k_block | apply k_block_ret | apply k_block_here | apply c_seq | apply c_block | apply c_region | apply c_skip | apply c_ret | apply c_exit | apply c_loop | apply k_loop_exit | apply k_loop_ret | apply if_t | apply if_f
  | (with_reducible apply k_block_on
     · decide)
  | ((with_reducible first | apply xOp | apply xDr | apply xIf); rfl; (simp only [Nat.reduceEqDiff, Nat.reduceAdd, ↓reduceIte, xBB, stG, opA, val, opdA, opdO, plainN, omap, binA, intBinA, loadV, readA, storeV, writeA, fieldAddrA, indexAddrA, lenA, builtinA, newA, unA, packA, Value.cells, h5, k1, k2, fd28_1, ty26, hbox, hc1, un26, hlt, sz58, hb, fd58_0, fd58_1, ty3, g1, p3, p4, hsh, hand, hbit, hb1, hw]; rfl); first | rfl | exact ⟨rfl, rfl, rfl⟩))
        intro _ _
        exact k_loop_next (m' := m - 1) (by omega) ⟨k + 1, by omega, by simp only [Nat.reduceEqDiff, T.get_put, ↓reduceIte], by rw [hnext, hb1]; rfl⟩
      | true =>
        cases hb2 : a.testBit y with
        | true =>
          repeat (first
  | with_reducible first | apply ops_end | apply d_end | apply k_seq | apply k_seq_ret | apply k_seq_exit | apply k_block | apply k_block_ret | apply k_block_here | apply c_seq | apply c_block | apply c_region | apply c_skip | apply c_ret | apply c_exit | apply c_loop | apply k_loop_exit | apply k_loop_ret | apply if_t | apply if_f
  | (with_reducible apply k_block_on
     · decide)
  | ((with_reducible first | apply xOp | apply xDr | apply xIf); rfl; (simp only [Nat.reduceEqDiff, Nat.reduceAdd, ↓reduceIte, xBB, stG, opA, val, opdA, opdO, plainN, omap, binA, intBinA, loadV, readA, storeV, writeA, fieldAddrA, indexAddrA, lenA, builtinA, newA, unA, packA, Value.cells, h5, k1, k2, fd28_1, ty26, hbox, hc1, un26, hlt, sz58, hb, fd58_0, fd58_1, ty3, g1, p3, p4, hsh, hand, hbit, hb1, hsh2, hand2, hbit2, hb2, Bool.not_true, Bool.not_false, hw]; rfl); first | rfl | exact ⟨rfl, rfl, rfl⟩))
          intro _ _
          exact k_loop_next (m' := m - 1) (by omega) ⟨k + 1, by omega, by simp only [Nat.reduceEqDiff, T.get_put, ↓reduceIte], by rw [hnext, hb1, hb2]; rfl⟩
        | false =>
          repeat (first
  | with_reducible first | apply ops_end | apply d_end | apply k_seq | apply k_seq_ret | apply k_seq_exit | apply k_block | apply k_block_ret | apply k_block_here | apply c_seq | apply c_block | apply c_region | apply c_skip | apply c_ret | apply c_exit | apply c_loop | apply k_loop_exit | apply k_loop_ret | apply if_t | apply if_f
  | (with_reducible apply k_block_on
     · decide)
  | ((with_reducible first | apply xOp | apply xDr | apply xIf); rfl; (simp only [Nat.reduceEqDiff, Nat.reduceAdd, ↓reduceIte, xBB, stG, opA, val, opdA, opdO, plainN, omap, binA, intBinA, loadV, readA, storeV, writeA, fieldAddrA, indexAddrA, lenA, builtinA, newA, unA, packA, Value.cells, h5, k1, k2, fd28_1, ty26, hbox, hc1, un26, hlt, sz58, hb, fd58_0, fd58_1, ty3, g1, p3, p4, hsh, hand, hbit, hb1, hsh2, hand2, hbit2, hb2, Bool.not_true, Bool.not_false, hw]; rfl); first | rfl | exact ⟨rfl, rfl, rfl⟩))
          intro _ _
          repeat (first
  | with_reducible first | apply ops_end | apply d_end | apply k_seq | apply k_seq_ret | apply k_seq_exit | apply k_block | apply k_block_ret | apply k_block_here | apply c_seq | apply c_block | apply c_region | apply c_skip | apply c_ret | apply c_exit | apply c_loop | apply k_loop_exit | apply k_loop_ret | apply if_t | apply if_f
  | (with_reducible apply k_block_on
     · decide)
  | ((with_reducible first | apply xOp | apply xDr | apply xIf); rfl; (simp only [Nat.reduceEqDiff, Nat.reduceAdd, ↓reduceIte, xBB, stG, opA, val, opdA, opdO, plainN, omap, binA, intBinA, loadV, readA, storeV, writeA, fieldAddrA, indexAddrA, lenA, builtinA, newA, unA, packA, Value.cells]; rfl); first | rfl | exact ⟨rfl, rfl, rfl⟩))
          intro _
          ((with_reducible first | apply ret_i | apply ret_n); (simp only [Nat.reduceEqDiff, Nat.reduceAdd, ↓reduceIte, xBB, resA, opdA, opdO, plainN, omap, val, loadV, readA, packA]; rfl))
          rw [closedB_not hjl' (by rw [hx, Int.toNat_natCast]; exact hb1) (by rw [hy, Int.toNat_natCast]; exact hb2)]
          rfl
    · repeat (first
  | with_reducible first | apply ops_end | apply d_end | apply k_seq | apply k_seq_ret | apply k_seq_exit | apply k_block | apply k_block_ret | apply k_block_here | apply c_seq | apply c_block | apply c_region | apply c_skip | apply c_ret | apply c_exit | apply c_loop | apply k_loop_exit | apply k_loop_ret | apply if_t | apply if_f
  | (with_reducible apply k_block_on
     · decide)
  | ((with_reducible first | apply xOp | apply xDr | apply xIf); rfl; (simp only [Nat.reduceEqDiff, Nat.reduceAdd, ↓reduceIte, xBB, stG, opA, val, opdA, opdO, plainN, omap, binA, intBinA, loadV, readA, storeV, writeA, fieldAddrA, indexAddrA, lenA, builtinA, newA, unA, packA, Value.cells, h5, k2, fd28_1, ty26, hbox, hc1, un26, hlt]; rfl); first | rfl | exact ⟨rfl, rfl, rfl⟩))
      intro _ _
      repeat (first
  | with_reducible first | apply ops_end | apply d_end | apply k_seq | apply k_seq_ret | apply k_seq_exit | apply k_block | apply k_block_ret | apply k_block_here | apply c_seq | apply c_block | apply c_region | apply c_skip | apply c_ret | apply c_exit | apply c_loop | apply k_loop_exit | apply k_loop_ret | apply if_t | apply if_f
  | (with_reducible apply k_block_on
     · decide)
  | ((with_reducible first | apply xOp | apply xDr | apply xIf); rfl; (simp only [Nat.reduceEqDiff, Nat.reduceAdd, ↓reduceIte, xBB, stG, opA, val, opdA, opdO, plainN, omap, binA, intBinA, loadV, readA, storeV, writeA, fieldAddrA, indexAddrA, lenA, builtinA, newA, unA, packA, Value.cells]; rfl); first | rfl | exact ⟨rfl, rfl, rfl⟩))
      intro _
      ((with_reducible first | apply ret_i | apply ret_n); (simp only [Nat.reduceEqDiff, Nat.reduceAdd, ↓reduceIte, xBB, resA, opdA, opdO, plainN, omap, val, loadV, readA, packA]; rfl))
      rw [List.take_of_length_le (by simp at hlt; omega)] at hcl
      rw [hcl]
      rfl

theorem f16_spec [Sorts Tryd.prog] (n : Nat) (es : List (Int × Int)) (ev : Value) (i : Nat) (s : HS) (hs : Sl s 2 ev (es.map encE)) (hg : GoodG n es) (hn : n < 62) (hi : i < n) :
    wpF Tryd.prog s.nx 16 [vG n ev, .int .i64 i] s (fun v s' => v = .int .i64 (compN n es i)) := by
  refine wpF_of Tryd.func16 rfl rfl rfl rfl (Nat.le_refl _) ?_
  simp only [paramsA, vG]
  repeat (first
  | with_reducible first | apply ops_end | apply d_end | apply k_seq | apply k_seq_ret | apply k_seq_exit | apply k_block | apply k_block_ret | apply k_block_here | apply c_seq | apply c_block | apply c_region | apply c_skip | apply c_ret | apply c_exit | apply c_loop | apply k_loop_exit | apply k_loop_ret | apply if_t | apply if_f
  | (with_reducible apply k_block_on
     · decide)
  | ((with_reducible first | apply xOp | apply xDr | apply xIf); rfl; (simp only [Nat.reduceEqDiff, Nat.reduceAdd, ↓reduceIte, xBB, stG, opA, val, opdA, opdO, plainN, omap, binA, intBinA, loadV, readA, storeV, writeA, fieldAddrA, indexAddrA, lenA, builtinA, newA, unA, packA, Value.cells]; rfl); first | rfl | exact ⟨rfl, rfl, rfl⟩))
  have hA0 := Ab.new (lk := s.nx) s (.cells true 28 [.int .i64 n, ev])
  have hs1 := hs.keep hA0
  refine loop_k (lk' := s.nx + 1) (s0 := ⟨_, s.nx + 1⟩) (fun m f t => ∃ k : Nat, k + m = n ∧ f.get 6 = some (.int .i64 k) ∧ f.get 5 = some (.int .i64 (compS n es i k))) n (Nat.le_succ _) (Nat.le_refl _) ?_ (Ab.refl _ _) ?_
  · exact ⟨0, by omega, by simp only [Nat.reduceEqDiff, T.get_put, ↓reduceIte]; rfl, by simp only [Nat.reduceEqDiff, T.get_put, ↓reduceIte]; rfl⟩
  · rintro m f t ⟨k, hk, h6, h5⟩ hA hF
    (have k1 := hF 1 (by rfl); simp only [Nat.reduceEqDiff, T.get_put, ↓reduceIte] at k1; have k2 := hF 2 (by rfl); simp only [Nat.reduceEqDiff, T.get_put, ↓reduceIte] at k2)
    have hbox := hA.get (Nat.le_refl _) (Nat.lt_succ_self s.nx)
    rw [T.get_put_eq] at hbox
    have hst := hs1.keep hA
    have hnx := hA.nx
    dsimp only at hnx
    have hc0 : cutL [Value.int .i64 (n : Int), ev] 0 1 = some [Value.int .i64 n] := rfl
    have hc2 : cutL [Value.int .i64 (n : Int), ev] 0 2 = some [Value.int .i64 n, ev] := rfl
    by_cases hlt : (k : Int) < (n : Int)
    · have hkn : k < n := by omega
      have hw : IntKind.i64.wrap ((k : Int) + 1) = ((k + 1 : Nat) : Int) := by rw [IntWalk.i64_in _ (by omega)]; rfl
      have hshl := shl_i64 (k := i) (by omega)
      have hshl2 := shl_i64 (k := k) (by omega)
      have hH3 : HN n es i < 2 ^ 63 := Nat.lt_of_lt_of_le (HN_lt hg hi) (Nat.pow_le_pow_right (by decide) (by omega))
      have hK3 : HN n es k < 2 ^ 63 := Nat.lt_of_lt_of_le (HN_lt hg hkn) (Nat.pow_le_pow_right (by decide) (by omega))
      have hsh := shr_i64 (a := HN n es i) (k := k) hH3
      have hand := and_one (a := HN n es i >>> k) (shr_lt hH3)
      have hbit := bit_eq (HN n es i) k
      have hsh2 := shr_i64 (a := HN n es k) (k := i) hK3
      have hand2 := and_one (a := HN n es k >>> i) (shr_lt hK3)
      have hbit2 := bit_eq (HN n es k) i
      repeat (first
  | with_reducible first | apply ops_end | apply d_end | apply k_seq | apply k_seq_ret | apply k_seq_exit | apply k_block | apply k_block_ret | apply k_block_here | apply c_seq | apply c_block | apply c_region | apply c_skip | apply c_ret | apply c_exit | apply c_loop | apply k_loop_exit | apply k_loop_ret | apply if_t | apply if_f
  | (with_reducible apply k_block_on
     · decide)
  | ((with_reducible first | apply xOp | apply xDr | apply xIf); rfl; (simp only [Nat.reduceEqDiff, Nat.reduceAdd, ↓reduceIte, xBB, stG, opA, val, opdA, opdO, plainN, omap, binA, intBinA, loadV, readA, storeV, writeA, fieldAddrA, indexAddrA, lenA, builtinA, newA, unA, packA, Value.cells, h6, k2, fd28_0, ty3, hbox, hc0, hlt]; rfl); first | rfl | exact ⟨rfl, rfl, rfl⟩))
      refine c_draw [⟨true, [], none⟩, ⟨false, [], none⟩, ⟨false, [], none⟩, ⟨true, [], none⟩, ⟨false, [], none⟩, ⟨true, [], none⟩, ⟨true, [], none⟩, ⟨true, [], none⟩, ⟨true, [], none⟩, ⟨true, [], none⟩, ⟨false, [], none⟩, ⟨false, [], none⟩, ⟨true, [], none⟩, ⟨false, [], none⟩, ⟨true, [], none⟩, ⟨true, [], none⟩, ⟨true, [], none⟩, ⟨true, [], none⟩] (by kernel_rfl) ?_
      repeat (first
  | with_reducible first | apply ops_end | apply d_end | apply k_seq | apply k_seq_ret | apply k_seq_exit | apply k_block | apply k_block_ret | apply k_block_here | apply c_seq | apply c_block | apply c_region | apply c_skip | apply c_ret | apply c_exit | apply c_loop | apply k_loop_exit | apply k_loop_ret | apply if_t | apply if_f
  | (with_reducible apply k_block_on
     · decide)
  | ((with_reducible first | apply xOp | apply xDr | apply xIf); rfl; (simp only [Nat.reduceEqDiff, Nat.reduceAdd, ↓reduceIte, xBB, stG, opA, val, opdA, opdO, plainN, omap, binA, intBinA, loadV, readA, storeV, writeA, fieldAddrA, indexAddrA, lenA, builtinA, newA, unA, packA, Value.cells, k1, k2, ty28, hbox, hc2, hshl]; rfl); first | rfl | exact ⟨rfl, rfl, rfl⟩))
      ((with_reducible first | apply xCa | apply xCd); rfl; (simp only [Nat.reduceEqDiff, Nat.reduceAdd, ↓reduceIte, xBB, stB, opdA, opdO, plainN, omap, val, Value.cells]; exact ⟨rfl, rfl⟩); try rfl)
      apply call_fn
      refine (f22_spec n es ev (2 ^ i) t hst hg (by omega) (Nat.pow_lt_pow_right (by decide) (by omega))).use (by first | exact Nat.le_refl _ | (simp only [cond_true, cond_false]; omega) | omega | (dsimp only; omega)) (by first | exact Nat.le_refl _ | (simp only [cond_true, cond_false]; omega) | omega | (dsimp only; omega)) fun v t1 hv hA1 => ?_
      subst hv
      rw [Int.toNat_natCast, show hullN es n (2 ^ i) = HN n es i from rfl]
      have hnx1 := hA1.nx
      have hbox1 := (hA1.get (Nat.le_refl _) (by omega)).trans hbox
      refine opt_of rfl ?_
      cases hb1 : (HN n es i).testBit k with
      | false =>
        have hm : mutB n es i k = false := by unfold mutB; rw [hb1]; rfl
        repeat (first
  | with_reducible first | apply ops_end | apply d_end | apply k_seq | apply k_seq_ret | apply k_seq_exit | apply k_block | apply k_block_ret | apply k_block_here | apply c_seq | apply c_block | apply c_region | apply c_skip | apply c_ret | apply c_exit | apply c_loop | apply k_loop_exit | apply k_loop_ret | apply if_t | apply if_f
  | (with_reducible apply k_block_on
     · decide)
  | ((with_reducible first | apply xOp | apply xDr | apply xIf); rfl; (simp only [Nat.reduceEqDiff, Nat.reduceAdd, ↓reduceIte, xBB, stG, opA, val, opdA, opdO, plainN, omap, binA, intBinA, loadV, readA, storeV, writeA, fieldAddrA, indexAddrA, lenA, builtinA, newA, unA, packA, Value.cells, h6, hsh, hand, hbit, hb1, hw]; rfl); first | rfl | exact ⟨rfl, rfl, rfl⟩))
        intro _ _
        refine k_loop_next (m' := m - 1) (by omega) ⟨k + 1, by omega, by simp only [Nat.reduceEqDiff, T.get_put, ↓reduceIte], ?_⟩
        simp only [Nat.reduceEqDiff, T.get_put, ↓reduceIte]
        rw [compS, hm]; exact h5
      | true =>
        repeat (first
  | with_reducible first | apply ops_end | apply d_end | apply k_seq | apply k_seq_ret | apply k_seq_exit | apply k_block | apply k_block_ret | apply k_block_here | apply c_seq | apply c_block | apply c_region | apply c_skip | apply c_ret | apply c_exit | apply c_loop | apply k_loop_exit | apply k_loop_ret | apply if_t | apply if_f
  | (with_reducible apply k_block_on
     · decide)
  | ((with_reducible first | apply xOp | apply xDr | apply xIf); rfl; (simp only [Nat.reduceEqDiff, Nat.reduceAdd, ↓reduceIte, xBB, stG, opA, val, opdA, opdO, plainN, omap, binA, intBinA, loadV, readA, storeV, writeA, fieldAddrA, indexAddrA, lenA, builtinA, newA, unA, packA, Value.cells, h6, hsh, hand, hbit, hb1, k2, ty28, hbox1, hc2, hshl2]; rfl); first | rfl | exact ⟨rfl, rfl, rfl⟩))
        ((with_reducible first | apply xCa | apply xCd); rfl; (simp only [Nat.reduceEqDiff, Nat.reduceAdd, ↓reduceIte, xBB, stB, opdA, opdO, plainN, omap, val, Value.cells]; exact ⟨rfl, rfl⟩); try rfl)
        apply call_fn
        refine (f22_spec n es ev (2 ^ k) t1 (hst.keep hA1) hg (by omega) (Nat.pow_lt_pow_right (by decide) (by omega))).use (by first | exact Nat.le_refl _ | (simp only [cond_true, cond_false]; omega) | omega | (dsimp only; omega)) (by first | exact Nat.le_refl _ | (simp only [cond_true, cond_false]; omega) | omega | (dsimp only; omega)) fun v t2 hv hA2 => ?_
        subst hv
        rw [Int.toNat_natCast, show hullN es n (2 ^ k) = HN n es k from rfl]
        refine opt_of rfl ?_
        cases hb2 : (HN n es k).testBit i with
        | false =>
          have hm : mutB n es i k = false := by unfold mutB; rw [hb1, hb2]; rfl
          repeat (first
  | with_reducible first | apply ops_end | apply d_end | apply k_seq | apply k_seq_ret | apply k_seq_exit | apply k_block | apply k_block_ret | apply k_block_here | apply c_seq | apply c_block | apply c_region | apply c_skip | apply c_ret | apply c_exit | apply c_loop | apply k_loop_exit | apply k_loop_ret | apply if_t | apply if_f
  | (with_reducible apply k_block_on
     · decide)
  | ((with_reducible first | apply xOp | apply xDr | apply xIf); rfl; (simp only [Nat.reduceEqDiff, Nat.reduceAdd, ↓reduceIte, xBB, stG, opA, val, opdA, opdO, plainN, omap, binA, intBinA, loadV, readA, storeV, writeA, fieldAddrA, indexAddrA, lenA, builtinA, newA, unA, packA, Value.cells, k1, h6, hsh2, hand2, hbit2, hb2, hw]; rfl); first | rfl | exact ⟨rfl, rfl, rfl⟩))
          intro _ _
          refine k_loop_next (m' := m - 1) (by omega) ⟨k + 1, by omega, by simp only [Nat.reduceEqDiff, T.get_put, ↓reduceIte], ?_⟩
          simp only [Nat.reduceEqDiff, T.get_put, ↓reduceIte]
          rw [compS, hm]; exact h5
        | true =>
          have hm : mutB n es i k = true := by unfold mutB; rw [hb1, hb2]; rfl
          have hS3 : compS n es i k < 2 ^ 63 := Nat.lt_of_lt_of_le (compS_lt k) (Nat.pow_le_pow_right (by decide) (by omega))
          have hor := or_i64 (a := compS n es i k) (b := 2 ^ k) hS3 (Nat.pow_lt_pow_right (by decide) (by omega))
          repeat (first
  | with_reducible first | apply ops_end | apply d_end | apply k_seq | apply k_seq_ret | apply k_seq_exit | apply k_block | apply k_block_ret | apply k_block_here | apply c_seq | apply c_block | apply c_region | apply c_skip | apply c_ret | apply c_exit | apply c_loop | apply k_loop_exit | apply k_loop_ret | apply if_t | apply if_f
  | (with_reducible apply k_block_on
     · decide)
  | ((with_reducible first | apply xOp | apply xDr | apply xIf); rfl; (simp only [Nat.reduceEqDiff, Nat.reduceAdd, ↓reduceIte, xBB, stG, opA, val, opdA, opdO, plainN, omap, binA, intBinA, loadV, readA, storeV, writeA, fieldAddrA, indexAddrA, lenA, builtinA, newA, unA, packA, Value.cells, k1, h5, h6, hsh2, hand2, hbit2, hb2, hshl2, hor, hw]; rfl); first | rfl | exact ⟨rfl, rfl, rfl⟩))
          intro _ _
          refine k_loop_next (m' := m - 1) (by omega) ⟨k + 1, by omega, by simp only [Nat.reduceEqDiff, T.get_put, ↓reduceIte], ?_⟩
          simp only [Nat.reduceEqDiff, T.get_put, ↓reduceIte]
          rw [compS, hm]; rfl
    · repeat (first
  | with_reducible first | apply ops_end | apply d_end | apply k_seq | apply k_seq_ret | apply k_seq_exit | apply k_block | apply k_block_ret | apply k_block_here | apply c_seq | apply c_block | apply c_region | apply c_skip | apply c_ret | apply c_exit | apply c_loop | apply k_loop_exit | apply k_loop_ret | apply if_t | apply if_f
  | (with_reducible apply k_block_on
     · decide)
  | ((with_reducible first | apply xOp | apply xDr | apply xIf); rfl; (simp only [Nat.reduceEqDiff, Nat.reduceAdd, ↓reduceIte, xBB, stG, opA, val, opdA, opdO, plainN, omap, binA, intBinA, loadV, readA, storeV, writeA, fieldAddrA, indexAddrA, lenA, builtinA, newA, unA, packA, Value.cells, h6, k2, fd28_0, ty3, hbox, hc0, hlt]; rfl); first | rfl | exact ⟨rfl, rfl, rfl⟩))
      intro _ _
      repeat (first
  | with_reducible first | apply ops_end | apply d_end | apply k_seq | apply k_seq_ret | apply k_seq_exit | apply k_block | apply k_block_ret | apply k_block_here | apply c_seq | apply c_block | apply c_region | apply c_skip | apply c_ret | apply c_exit | apply c_loop | apply k_loop_exit | apply k_loop_ret | apply if_t | apply if_f
  | (with_reducible apply k_block_on
     · decide)
  | ((with_reducible first | apply xOp | apply xDr | apply xIf); rfl; (simp only [Nat.reduceEqDiff, Nat.reduceAdd, ↓reduceIte, xBB, stG, opA, val, opdA, opdO, plainN, omap, binA, intBinA, loadV, readA, storeV, writeA, fieldAddrA, indexAddrA, lenA, builtinA, newA, unA, packA, Value.cells, h5]; rfl); first | rfl | exact ⟨rfl, rfl, rfl⟩))
      intro _
      ((with_reducible first | apply ret_i | apply ret_n); (simp only [Nat.reduceEqDiff, Nat.reduceAdd, ↓reduceIte, xBB, resA, opdA, opdO, plainN, omap, val, loadV, readA, packA]; rfl))
      have hkn : k = n := by omega
      subst hkn; rfl
end Go.Ev
