import Derived.Test.YthedojfbofcefaaDoorEvG16
import Derived.Test.YthedojfbofcefaaDoorEvG22
/- Plain laws: the order in which components can be moved out. -/
set_option linter.unusedSimpArgs false
set_option linter.unusedVariables false
namespace Go.Ev
open Go

/-! ### Bits -/
/-- What a set has beyond another one. -/
def andnN (a b : Nat) : Nat := (BitVec.ofNat 64 a &&& ~~~BitVec.ofNat 64 b).toNat
theorem andnN_lt (a b : Nat) : andnN a b < 18446744073709551616 := (BitVec.ofNat 64 a &&& ~~~BitVec.ofNat 64 b).isLt
theorem andnot_u64 {a b : Nat} : IntKind.u64.wrap ((BitVec.ofInt IntKind.u64.bits (a : Int) &&& ~~~BitVec.ofInt IntKind.u64.bits (b : Int)).toNat : Int) = ((andnN a b : Nat) : Int) := by
  show IntKind.u64.wrap ((BitVec.ofInt 64 (a : Int) &&& ~~~BitVec.ofInt 64 (b : Int)).toNat : Int) = _
  rw [BitVec.ofInt_natCast, BitVec.ofInt_natCast]
  exact wrapU (andnN_lt a b)
theorem andnN_zero {a b : Nat} (ha : a < 2 ^ 64) : andnN a b = 0 ↔ ∀ j, a.testBit j = true → b.testBit j = true := by
  have hb : ∀ j, (andnN a b).testBit j = (decide (j < 64) && (a.testBit j && !b.testBit j)) := fun j => by
    show (BitVec.toNat _).testBit j = _
    rw [BitVec.testBit_toNat, BitVec.getLsbD_and, BitVec.getLsbD_not, BitVec.getLsbD_ofNat, BitVec.getLsbD_ofNat]
    by_cases h : j < 64 <;> simp [h]
  constructor
  · intro h j hj
    have h2 := hb j
    rw [h, Nat.zero_testBit, hj] at h2
    have h3 : j < 64 := by
      rcases Nat.lt_or_ge j 64 with h3 | h3
      · exact h3
      · rw [lt_bit ha h3] at hj; cases hj
    cases h4 : b.testBit j with
    | true => rfl
    | false => rw [h4] at h2; simp [h3] at h2
  · intro h
    refine Nat.eq_of_testBit_eq fun j => ?_
    rw [hb, Nat.zero_testBit]
    cases h1 : a.testBit j with
    | false => simp
    | true => rw [h j h1]; simp
theorem and_zero {a b : Nat} : a &&& b = 0 ↔ ∀ j, a.testBit j = true → b.testBit j = false := by
  constructor
  · intro h j hj
    have h2 : (a &&& b).testBit j = false := by rw [h, Nat.zero_testBit]
    rw [Nat.testBit_and, hj] at h2
    simpa using h2
  · intro h
    refine Nat.eq_of_testBit_eq fun j => ?_
    rw [Nat.testBit_and, Nat.zero_testBit]
    cases h1 : a.testBit j with
    | false => simp
    | true => rw [h j h1]; simp

/-! ### Closed sets -/
def closedB (es : List (Int × Int)) (S : Nat) : Bool := es.all fun e => !(S.testBit e.1.toNat && !S.testBit e.2.toNat)
theorem closedB_iff {es : List (Int × Int)} {S : Nat} : closedB es S = true ↔ ∀ e ∈ es, S.testBit e.1.toNat = true → S.testBit e.2.toNat = true := by
  unfold closedB
  rw [List.all_eq_true]
  constructor
  · intro h e he h1
    have := h e he
    rw [h1] at this; simpa using this
  · intro h e he
    cases h1 : S.testBit e.1.toNat with
    | false => simp
    | true => rw [h e he h1]; simp
theorem closedB_hull {n : Nat} {es : List (Int × Int)} (hg : GoodG n es) {S : Nat} (h : closedB es S = true) {x y : Nat} (hx : x < n) (h1 : S.testBit x = true) (h2 : (HN n es x).testBit y = true) : S.testBit y = true := by
  rw [closedB_iff] at h
  have key : ∀ a b : Int, Rch es a b → S.testBit a.toNat = true → S.testBit b.toNat = true := by
    intro a b hr
    induction hr with
    | refl => exact fun h => h
    | step _ e ih => exact fun h3 => h _ e (ih h3)
  have := key x y ((HN_bit hg hx y).1 h2) (by simpa using h1)
  simpa using this
theorem HN_high {n : Nat} {es : List (Int × Int)} (hg : GoodG n es) {x y : Nat} (hx : x < n) (h : (HN n es x).testBit y = true) : y < n := by
  rcases Nat.lt_or_ge y n with h1 | h1
  · exact h1
  · rw [lt_bit (HN_lt hg hx) h1] at h; cases h
theorem closedB_of_hull {n : Nat} {es : List (Int × Int)} (hg : GoodG n es) {S : Nat} (h : ∀ x y, x < n → S.testBit x = true → (HN n es x).testBit y = true → S.testBit y = true) : closedB es S = true := by
  rw [closedB_iff]
  intro e he h1
  obtain ⟨q1, q2, q3, q4⟩ := hg.ins e he
  refine h e.1.toNat e.2.toNat (by omega) h1 ((HN_bit hg (by omega) _).2 ?_)
  refine .step (.refl _) ?_
  rw [Int.toNat_of_nonneg q1, Int.toNat_of_nonneg q3]; exact he

/-! ### Which component can go -/
def okM (n : Nat) (es : List (Int × Int)) (gone i : Nat) : Bool := !gone.testBit i && closedB es (gone ||| compN n es i)
def okP (n : Nat) (es : List (Int × Int)) (gone r : Nat) : Bool := (compN n es r &&& gone == 0) && (andnN (HN n es r) (gone ||| compN n es r) == 0)
structure GoneOK (n : Nat) (es : List (Int × Int)) (gone : Nat) : Prop where
  lt : gone < 2 ^ n
  cl : closedB es gone = true

theorem gone_mut {n : Nat} {es : List (Int × Int)} (hg : GoodG n es) {gone i j : Nat} (h : GoneOK n es gone) (hi : i < n) (hj : j < n) (hm : mutB n es i j = true) : gone.testBit i = gone.testBit j := by
  obtain ⟨h1, h2⟩ := mut_iff.1 hm
  cases h3 : gone.testBit i with
  | true => exact (closedB_hull hg h.cl hi h3 h1).symm
  | false =>
    cases h4 : gone.testBit j with
    | false => rfl
    | true => rw [closedB_hull hg h.cl hj h4 h2] at h3; cases h3
theorem comp_eq {n : Nat} {es : List (Int × Int)} (hg : GoodG n es) {i j : Nat} (hi : i < n) (hj : j < n) (hm : mutB n es i j = true) : compN n es i = compN n es j := by
  refine Nat.eq_of_testBit_eq fun x => ?_
  rw [compN_bit, compN_bit]
  by_cases hx : x < n
  · have hx' : decide (x < n) = true := decide_eq_true hx
    rw [hx', Bool.true_and, Bool.true_and]
    cases h1 : mutB n es i x with
    | true => exact (mut_trans hg hj hi hx (by rw [mut_symm]; exact hm) h1).symm
    | false =>
      cases h2 : mutB n es j x with
      | false => rfl
      | true => rw [mut_trans hg hi hj hx hm h2] at h1; cases h1
  · simp [hx]
theorem ok_eq {n : Nat} {es : List (Int × Int)} (hg : GoodG n es) (hn : n ≤ 64) {gone r : Nat} (h : GoneOK n es gone) (hr : r < n) : okP n es gone r = okM n es gone r := by
  have h64 : HN n es r < 2 ^ 64 := Nat.lt_of_lt_of_le (HN_lt hg hr) (Nat.pow_le_pow_right (by decide) hn)
  have e1 : (compN n es r &&& gone == 0) = !gone.testBit r := by
    cases hb : gone.testBit r with
    | true =>
      show _ = false
      rw [beq_eq_false_iff_ne]
      intro h0
      have := and_zero.1 h0 r (by rw [compN_bit, mut_self hg hr]; simp [hr])
      rw [hb] at this; cases this
    | false =>
      show _ = true
      rw [beq_iff_eq, and_zero]
      intro j hj
      rw [compN_bit, Bool.and_eq_true, decide_eq_true_eq] at hj
      rw [← gone_mut hg h hr hj.1 hj.2]; exact hb
  have e2 : (andnN (HN n es r) (gone ||| compN n es r) == 0) = closedB es (gone ||| compN n es r) := by
    rw [Bool.eq_iff_iff, beq_iff_eq, andnN_zero h64]
    constructor
    · intro h1
      refine closedB_of_hull hg fun x y hx h2 h3 => ?_
      rw [Nat.testBit_or, Bool.or_eq_true] at h2
      rcases h2 with h2 | h2
      · rw [Nat.testBit_or, closedB_hull hg h.cl hx h2 h3]; rfl
      · rw [compN_bit, Bool.and_eq_true, decide_eq_true_eq] at h2
        exact h1 y (HN_trans hg hr hx (mut_iff.1 h2.2).1 h3)
    · intro h1 j hj
      refine closedB_hull hg h1 hr ?_ hj
      rw [Nat.testBit_or, compN_bit, mut_self hg hr]; simp [hr]
  unfold okP okM
  rw [e1, e2]
theorem gone_step {n : Nat} {es : List (Int × Int)} {gone i : Nat} (h : GoneOK n es gone) (ho : okM n es gone i = true) : GoneOK n es (gone ||| compN n es i) := by
  unfold okM at ho
  rw [Bool.and_eq_true] at ho
  exact ⟨Nat.or_lt_two_pow h.lt compN_lt, ho.2⟩
/-- The first one that can go is the first of its component. -/
theorem ok_rep {n : Nat} {es : List (Int × Int)} (hg : GoodG n es) {gone i : Nat} (h : GoneOK n es gone) (hi : i < n) (ho : okM n es gone i = true) (hf : ∀ j, j < i → okM n es gone j = false) : isRep n es i = true := by
  obtain ⟨r, h1, h2, h3⟩ := rep_ex hg hi
  have : okM n es gone r = true := by
    unfold okM at *
    rw [comp_eq hg (by omega) hi h3, gone_mut hg h (by omega) hi h3]; exact ho
  rcases Nat.lt_or_ge r i with h4 | h4
  · rw [hf r h4] at this; cases this
  · rw [show i = r by omega]; exact h2
/-- As long as a node is left, some component can go. -/
theorem ok_ex {n : Nat} {es : List (Int × Int)} (hg : GoodG n es) {gone : Nat} (h : GoneOK n es gone) {x : Nat} (hx : x < n) (hb : gone.testBit x = false) : ∃ i, i < n ∧ okM n es gone i = true := by
  have key : ∀ c x, x < n → gone.testBit x = false → cardN (HN n es x) n ≤ c → ∃ i, i < n ∧ okM n es gone i = true := by
    intro c
    induction c with
    | zero =>
      intro x hx hb hc
      exfalso
      have h0 : ∀ j, (0 : Nat).testBit j = true → (HN n es x).testBit j = true := fun j hj => by rw [Nat.zero_testBit] at hj; cases hj
      have := (cardN_mono h0 n).2 ⟨x, hx, HN_self hg hx, Nat.zero_testBit x⟩
      omega
    | succ c ih =>
      intro x hx hb hc
      by_cases hex : ∃ y, (HN n es x).testBit y = true ∧ gone.testBit y = false ∧ mutB n es x y = false
      · obtain ⟨y, h1, h2, h3⟩ := hex
        have hy := HN_high hg hx h1
        refine ih y hy h2 ?_
        have hsub : ∀ j, (HN n es y).testBit j = true → (HN n es x).testBit j = true := fun j hj => HN_trans hg hx hy h1 hj
        have hnx : (HN n es y).testBit x = false := by
          cases h4 : (HN n es y).testBit x with
          | false => rfl
          | true => rw [mut_iff.2 ⟨h1, h4⟩] at h3; cases h3
        have := (cardN_mono hsub n).2 ⟨x, hx, HN_self hg hx, hnx⟩
        omega
      · refine ⟨x, hx, ?_⟩
        unfold okM
        rw [hb, Bool.not_false, Bool.true_and]
        refine closedB_of_hull hg fun a b ha h1 h2 => ?_
        rw [Nat.testBit_or, Bool.or_eq_true] at h1
        rcases h1 with h1 | h1
        · rw [Nat.testBit_or, closedB_hull hg h.cl ha h1 h2]; rfl
        · rw [compN_bit, Bool.and_eq_true, decide_eq_true_eq] at h1
          have h3 := HN_trans hg hx ha (mut_iff.1 h1.2).1 h2
          rw [Nat.testBit_or, compN_bit]
          cases h4 : gone.testBit b with
          | true => rfl
          | false =>
            cases h5 : mutB n es x b with
            | true => simp [HN_high hg hx h3]
            | false => exact absurd ⟨b, h3, h4, h5⟩ hex
  exact key _ x hx hb (Nat.le_refl _)

/-! ### One after another -/
def pick (n : Nat) (es : List (Int × Int)) (gone : Nat) : Option Nat := (List.range n).find? (okM n es gone)
theorem pick_some {n : Nat} {es : List (Int × Int)} {gone r : Nat} (h : pick n es gone = some r) : r < n ∧ okM n es gone r = true ∧ ∀ j, j < r → okM n es gone j = false := by
  unfold pick at h
  rw [List.find?_range_eq_some] at h
  obtain ⟨h1, h2, h3⟩ := h
  exact ⟨by simpa using h2, h1, fun j hj => by simpa using h3 j hj⟩
theorem pick_none {n : Nat} {es : List (Int × Int)} {gone : Nat} (h : pick n es gone = none) : ∀ j, j < n → okM n es gone j = false := by
  unfold pick at h
  rw [List.find?_range_eq_none] at h
  intro j hj
  simpa using h j hj
def peelSt (n : Nat) (es : List (Int × Int)) : Nat → List Nat × Nat
  | 0 => ([], 0)
  | k + 1 => match pick n es (peelSt n es k).2 with
    | none => peelSt n es k
    | some r => ((peelSt n es k).1 ++ [r], (peelSt n es k).2 ||| compN n es r)
theorem gone_zero (n : Nat) (es : List (Int × Int)) : GoneOK n es 0 := ⟨Nat.pow_pos (by decide), closedB_iff.2 fun e _ h => by rw [Nat.zero_testBit] at h; cases h⟩
theorem peel_ok (n : Nat) (es : List (Int × Int)) : ∀ k, GoneOK n es (peelSt n es k).2
  | 0 => gone_zero n es
  | k + 1 => by
    have ih := peel_ok n es k
    unfold peelSt
    split
    · exact ih
    · rename_i r h
      exact gone_step ih (pick_some h).2.1

theorem filter_out {p : Nat → Bool} {r : Nat} : ∀ {l : List Nat}, l.Nodup → r ∈ l → p r = true → (l.filter fun x => p x && !(x == r)).length + 1 = (l.filter p).length := by
  intro l
  induction l with
  | nil => intro _ h; cases h
  | cons a l ih =>
    intro hn hm hp
    obtain ⟨h1, h2⟩ := List.nodup_cons.1 hn
    by_cases har : a = r
    · subst har
      rw [List.filter_cons_of_neg (by simp), List.filter_cons_of_pos hp, List.length_cons]
      congr 2
      refine List.filter_congr fun x hx => ?_
      have : x ≠ a := fun h => h1 (h ▸ hx)
      simp [this]
    · have hm2 : r ∈ l := by rcases List.mem_cons.1 hm with h | h; exact absurd h.symm har; exact h
      have := ih h2 hm2 hp
      cases hpa : p a with
      | true => rw [List.filter_cons_of_pos (by simp [hpa, har]), List.filter_cons_of_pos hpa, List.length_cons, List.length_cons]; omega
      | false => rw [List.filter_cons_of_neg (by simp [hpa]), List.filter_cons_of_neg (by simp [hpa])]; exact this
/-- How many components are left. -/
def leftN (n : Nat) (es : List (Int × Int)) (gone : Nat) : Nat := ((reps n es n).filter fun r => !gone.testBit r).length
theorem reps_nodup (n : Nat) (es : List (Int × Int)) (k : Nat) : (reps n es k).Nodup := List.Pairwise.filter _ List.nodup_range
theorem left_step {n : Nat} {es : List (Int × Int)} (hg : GoodG n es) {gone r : Nat} (h : GoneOK n es gone) (hp : pick n es gone = some r) : leftN n es (gone ||| compN n es r) + 1 = leftN n es gone := by
  obtain ⟨h1, h2, h3⟩ := pick_some hp
  have hrep := ok_rep hg h h1 h2 h3
  have hb : gone.testBit r = false := by unfold okM at h2; rw [Bool.and_eq_true] at h2; simpa using h2.1
  unfold leftN
  rw [← filter_out (p := fun r => !gone.testBit r) (reps_nodup n es n) (mem_reps.2 ⟨h1, hrep⟩) (by simp [hb])]
  congr 2
  refine List.filter_congr fun x hx => ?_
  obtain ⟨h4, h5⟩ := mem_reps.1 hx
  rw [Nat.testBit_or, compN_bit]
  have hd : decide (x < n) = true := decide_eq_true h4
  rw [hd, Bool.true_and]
  by_cases hxr : x = r
  · subst hxr; rw [mut_self hg h4]; simp
  · have : mutB n es r x = false := by
      cases hm : mutB n es r x with
      | false => rfl
      | true => exact absurd (rep_uniq hg h4 h4 h1 h5 (mut_self hg h4) hrep hm) hxr
    rw [this]; simp [hxr]
theorem left_pick {n : Nat} {es : List (Int × Int)} (hg : GoodG n es) {gone : Nat} (h : GoneOK n es gone) (hl : leftN n es gone ≠ 0) : ∃ r, pick n es gone = some r := by
  unfold leftN at hl
  obtain ⟨r, hr⟩ := List.exists_mem_of_length_pos (Nat.pos_of_ne_zero hl)
  rw [List.mem_filter] at hr
  obtain ⟨i, h1, h2⟩ := ok_ex hg h (mem_reps.1 hr.1).1 (by simpa using hr.2)
  cases hp : pick n es gone with
  | some r => exact ⟨r, rfl⟩
  | none => rw [pick_none hp i h1] at h2; cases h2
theorem left_none {n : Nat} {es : List (Int × Int)} (hg : GoodG n es) {gone : Nat} (h : GoneOK n es gone) (hl : leftN n es gone = 0) : gone = 2 ^ n - 1 := by
  refine Nat.eq_of_testBit_eq fun j => ?_
  rw [Nat.testBit_two_pow_sub_one]
  by_cases hj : j < n
  · rw [decide_eq_true hj]
    obtain ⟨r, h1, h2, h3⟩ := rep_ex hg hj
    rw [← gone_mut hg h (by omega) hj h3]
    cases hb : gone.testBit r with
    | true => rfl
    | false =>
      have : r ∈ (reps n es n).filter fun r => !gone.testBit r := List.mem_filter.2 ⟨mem_reps.2 ⟨by omega, h2⟩, by simp [hb]⟩
      unfold leftN at hl
      rw [List.eq_nil_of_length_eq_zero hl] at this; cases this
  · rw [decide_eq_false hj]; exact lt_bit h.lt (by omega)
theorem pick_full {n : Nat} {es : List (Int × Int)} : pick n es (2 ^ n - 1) = none := by
  unfold pick
  rw [List.find?_range_eq_none]
  intro j hj
  unfold okM
  rw [Nat.testBit_two_pow_sub_one, decide_eq_true hj]; rfl

/-- The number of components. -/
def cN (n : Nat) (es : List (Int × Int)) : Nat := (reps n es n).length
theorem peel_left {n : Nat} {es : List (Int × Int)} (hg : GoodG n es) : ∀ k, k ≤ cN n es → leftN n es (peelSt n es k).2 = cN n es - k ∧ (peelSt n es k).1.length = k := by
  intro k
  induction k with
  | zero =>
    intro _
    refine ⟨?_, rfl⟩
    unfold leftN cN peelSt
    rw [List.filter_eq_self.2 fun x _ => by simp, Nat.sub_zero]
  | succ k ih =>
    intro hk
    obtain ⟨i1, i2⟩ := ih (by omega)
    obtain ⟨r, hr⟩ := left_pick hg (peel_ok n es k) (by omega)
    have := left_step hg (peel_ok n es k) hr
    unfold peelSt
    rw [hr]
    dsimp only
    refine ⟨by omega, ?_⟩
    rw [List.length_append, i2]; rfl
theorem peel_pick {n : Nat} {es : List (Int × Int)} (hg : GoodG n es) {k : Nat} (hk : k < cN n es) : ∃ r, pick n es (peelSt n es k).2 = some r ∧ peelSt n es (k + 1) = ((peelSt n es k).1 ++ [r], (peelSt n es k).2 ||| compN n es r) := by
  obtain ⟨r, hr⟩ := left_pick hg (peel_ok n es k) (by have := (peel_left hg k (by omega)).1; omega)
  refine ⟨r, hr, ?_⟩
  rw [peelSt, hr]
theorem peel_full {n : Nat} {es : List (Int × Int)} (hg : GoodG n es) : (peelSt n es (cN n es)).2 = 2 ^ n - 1 := left_none hg (peel_ok n es _) (by have := (peel_left hg _ (Nat.le_refl _)).1; omega)
theorem peel_take {n : Nat} {es : List (Int × Int)} (hg : GoodG n es) : ∀ k, k ≤ cN n es → ∀ i, i ≤ k → (peelSt n es k).1.take i = (peelSt n es i).1 := by
  intro k
  induction k with
  | zero => intro _ i hi; rw [show i = 0 by omega]; rfl
  | succ k ih =>
    intro hk i hi
    obtain ⟨r, hr, he⟩ := peel_pick hg (k := k) (by omega)
    have hl := (peel_left hg k (by omega)).2
    by_cases hik : i = k + 1
    · subst hik
      have hl2 := (peel_left hg (k + 1) hk).2
      rw [List.take_of_length_le (by omega)]
    · rw [he]
      show List.take i ((peelSt n es k).1 ++ [r]) = _
      rw [List.take_append_of_le_length (by omega)]
      exact ih (by omega) i (by omega)
theorem peel_at {n : Nat} {es : List (Int × Int)} (hg : GoodG n es) {i : Nat} (hi : i < cN n es) : ∃ r, (peelSt n es (cN n es)).1[i]? = some r ∧ r < n ∧ (peelSt n es (i + 1)).2 = (peelSt n es i).2 ||| compN n es r := by
  obtain ⟨r, hr, he⟩ := peel_pick hg hi
  refine ⟨r, ?_, (pick_some hr).1, by rw [he]⟩
  have h1 := peel_take hg _ (Nat.le_refl _) (i + 1) hi
  rw [he] at h1
  have hl := (peel_left hg i (by omega)).2
  have h2 : ((peelSt n es (cN n es)).1.take (i + 1))[i]? = some r := by
    rw [h1, List.getElem?_append_right (by omega), hl, Nat.sub_self]; rfl
  rwa [List.getElem?_take_of_lt (by omega)] at h2
theorem peel_in {n : Nat} {es : List (Int × Int)} : ∀ k, ∀ r ∈ (peelSt n es k).1, r < n
  | 0, r, h => by cases h
  | k + 1, r, h => by
    have ih := peel_in (n := n) (es := es) k
    unfold peelSt at h
    split at h
    · exact ih r h
    · rename_i x hx
      rcases List.mem_append.1 h with h | h
      · exact ih r h
      · rw [List.mem_singleton.1 h]; exact (pick_some hx).1
end Go.Ev

/- The model: closed, component. -/
namespace Go.Ev
open Go Go.Proofs
set_option linter.unusedSimpArgs false
set_option linter.unusedVariables false
set_option maxRecDepth 100000
set_option maxHeartbeats 4000000
attribute [local irreducible] wpOps wpC wpD wpF wpLoop wpCall seqK blockK loopK retK T.put T.get T.setF

theorem bit_eq0 (a k : Nat) : ((((a >>> k) &&& 1 : Nat) : Int) == 0) = !a.testBit k := by
  have h := bit_eq a k
  have h2 : 1 &&& (a >>> k) = 0 ∨ 1 &&& (a >>> k) = 1 := by
    have : 1 &&& (a >>> k) ≤ 1 := Nat.and_le_left
    omega
  rw [Nat.and_comm] at h2
  rw [← h]
  rcases h2 with h2 | h2 <;> rw [h2] <;> rfl
theorem closedB_take {es : List (Int × Int)} {a k : Nat} (hk : k < es.length) : closedB (es.take (k + 1)) a = (closedB (es.take k) a && !(a.testBit es[k].1.toNat && !a.testBit es[k].2.toNat)) := by
  unfold closedB
  rw [List.take_succ_eq_append_getElem hk, List.all_append]
  simp
theorem closedB_not {es : List (Int × Int)} {a k : Nat} (hk : k < es.length) (h1 : a.testBit es[k].1.toNat = true) (h2 : a.testBit es[k].2.toNat = false) : closedB es a = false := by
  cases h : closedB es a with
  | false => rfl
  | true => rw [closedB_iff.1 h _ (List.getElem_mem hk) h1] at h2; cases h2

theorem f17_spec [Sorts Tryd.prog] (n : Int) (es : List (Int × Int)) (ev : Value) (a : Nat) (s : HS) (hs : Sl s 2 ev (es.map encE)) (hg : GoodG n es) (ha : a < 2 ^ 62) :
    wpF Tryd.prog s.nx 17 [vG n ev, .int .i64 a] s (fun v s' => v = .bool (closedB es a)) := by
  have ha3 : a < 2 ^ 63 := Nat.lt_trans ha (by decide)
  obtain ⟨b, c, rfl⟩ := hs.shape
  obtain ⟨hn0, hn1, hlen, hins⟩ := hg
  refine wpF_of Tryd.func17 rfl rfl rfl rfl (Nat.le_refl _) ?_
  simp only [paramsA, vG]
  repeat (first
  | with_reducible first | apply ops_end | apply d_end | apply k_seq | apply k_seq_ret | apply k_seq_exit | apply k_block | apply k_block_ret | apply k_block_here | apply c_seq | apply c_block | apply c_region | apply c_skip | apply c_ret | apply c_exit | apply c_loop | apply k_loop_exit | apply k_loop_ret | apply if_t | apply if_f
  | (with_reducible apply k_block_on
     · decide)
  | ((with_reducible first | apply xOp | apply xDr | apply xIf); rfl; (simp only [Nat.reduceEqDiff, Nat.reduceAdd, ↓reduceIte, xBB, stG, opA, val, opdA, opdO, plainN, omap, binA, intBinA, loadV, readA, storeV, writeA, fieldAddrA, indexAddrA, lenA, builtinA, newA, unA, packA, Value.cells]; rfl); first | rfl | exact ⟨rfl, rfl, rfl⟩))
  have hA0 := Ab.new (lk := s.nx) s (.cells true 28 [.int .i64 n, .slice b (es.map encE).length c])
  have hs1 := hs.keep hA0
  refine loop_k (lk' := s.nx + 1) (s0 := ⟨_, s.nx + 1⟩) (fun m f t => ∃ k : Nat, k + m = es.length ∧ f.get 5 = some (.int .i64 k) ∧ closedB (es.take k) a = true) es.length (Nat.le_succ _) (Nat.le_refl _) ?_ (Ab.refl _ _) ?_
  · exact ⟨0, by omega, by simp only [Nat.reduceEqDiff, T.get_put, ↓reduceIte]; rfl, rfl⟩
  · rintro m f t ⟨k, hk, h5, hcl⟩ hA hF
    (have k1 := hF 1 (by rfl); simp only [Nat.reduceEqDiff, T.get_put, ↓reduceIte] at k1; have k2 := hF 2 (by rfl); simp only [Nat.reduceEqDiff, T.get_put, ↓reduceIte] at k2)
    have hbox := hA.get (Nat.le_refl _) (Nat.lt_succ_self s.nx)
    rw [T.get_put_eq] at hbox
    have hst := hs1.keep hA
    have hnx := hA.nx
    dsimp only at hnx
    have hc1 : cutL [Value.int .i64 n, Value.slice b (es.map encE).length c] (0 + 1) 1 = some [Value.slice b (es.map encE).length c] := rfl
    by_cases hlt : (k : Int) < ((es.map encE).length : Int)
    · have hjl' : k < es.length := by simp at hlt; omega
      obtain ⟨id, off, wr, e, cs, rfl, g1, g2, g3, g4⟩ := hst.at (i := k) (x := encE es[k]) (by simp [hjl'])
      have hb : (0 : Int) ≤ (k : Int) ∧ (k : Int) < ((es.map encE).length : Int) := ⟨by omega, hlt⟩
      have hw : IntKind.i64.wrap ((k : Int) + 1) = ((k + 1 : Nat) : Int) := by rw [IntWalk.i64_in _ (by omega)]; rfl
      obtain ⟨q1, q2, q3, q4⟩ := hins es[k] (List.getElem_mem hjl')
      obtain ⟨x, hx⟩ : ∃ x : Nat, es[k].1 = (x : Int) := ⟨es[k].1.toNat, by omega⟩
      obtain ⟨y, hy⟩ : ∃ y : Nat, es[k].2 = (y : Int) := ⟨es[k].2.toNat, by omega⟩
      simp only [encE, hx, hy] at g3
      obtain ⟨p3, p4⟩ := cut_pair g3
      rw [Nat.add_assoc] at p4
      have hsh := shr_i64 (a := a) (k := x) ha3
      have hand := and_one (a := a >>> x) (shr_lt ha3)
      have hbit := bit_eq a x
      have hsh2 := shr_i64 (a := a) (k := y) ha3
      have hand2 := and_one (a := a >>> y) (shr_lt ha3)
      have hbit2 := bit_eq0 a y
      have hnext := closedB_take (a := a) hjl'
      rw [hcl, hx, hy, Int.toNat_natCast, Int.toNat_natCast, Bool.true_and] at hnext
      cases hb1 : a.testBit x with
      | false =>
        repeat (first
  | with_reducible first | apply ops_end | apply d_end | apply k_seq | apply k_seq_ret | apply k_seq_exit | apply k_block | apply k_block_ret | apply k_block_here | apply c_seq | apply c_block | apply c_region | apply c_skip | apply c_ret | apply c_exit | apply c_loop | apply k_loop_exit | apply k_loop_ret | apply if_t | apply if_f
  | (with_reducible apply k_block_on
     · decide)
  | ((with_reducible first | apply xOp | apply xDr | apply xIf); rfl; (simp only [Nat.reduceEqDiff, Nat.reduceAdd, ↓reduceIte, xBB, stG, opA, val, opdA, opdO, plainN, omap, binA, intBinA, loadV, readA, storeV, writeA, fieldAddrA, indexAddrA, lenA, builtinA, newA, unA, packA, Value.cells, h5, k1, k2, fd28_1, ty26, hbox, hc1, un26, hlt, sz58, hb, fd58_0, fd58_1, ty3, g1, p3, p4, hsh, hand, hbit, hb1, hw]; rfl); first | rfl | exact ⟨rfl, rfl, rfl⟩))
        intro _ _
        exact k_loop_next (m' := m - 1) (by omega) ⟨k + 1, by omega, by simp only [Nat.reduceEqDiff, T.get_put, ↓reduceIte], by rw [hnext, hb1]; rfl⟩
      | true =>
        cases hb2 : a.testBit y with
        | true =>
          repeat (first
  | with_reducible first | apply ops_end | apply d_end | apply k_seq | apply k_seq_ret | apply k_seq_exit | apply k_block | apply k_block_ret | apply k_block_here | apply c_seq | apply c_block | apply c_region | apply c_skip | apply c_ret | apply c_exit | apply c_loop | apply k_loop_exit | apply k_loop_ret | apply if_t | apply if_f
  | (with_reducible apply k_block_on
     · decide)
  | ((with_reducible first | apply xOp | apply xDr | apply xIf); rfl; (simp only [Nat.reduceEqDiff, Nat.reduceAdd, ↓reduceIte, xBB, stG, opA, val, opdA, opdO, plainN, omap, binA, intBinA, loadV, readA, storeV, writeA, fieldAddrA, indexAddrA, lenA, builtinA, newA, unA, packA, Value.cells, h5, k1, k2, fd28_1, ty26, hbox, hc1, un26, hlt, sz58, hb, fd58_0, fd58_1, ty3, g1, p3, p4, hsh, hand, hbit, hb1, hsh2, hand2, hbit2, hb2, Bool.not_true, Bool.not_false, hw]; rfl); first | rfl | exact ⟨rfl, rfl, rfl⟩))
          intro _ _
          exact k_loop_next (m' := m - 1) (by omega) ⟨k + 1, by omega, by simp only [Nat.reduceEqDiff, T.get_put, ↓reduceIte], by rw [hnext, hb1, hb2]; rfl⟩
        | false =>
          repeat (first
  | with_reducible first | apply ops_end | apply d_end | apply k_seq | apply k_seq_ret | apply k_seq_exit | apply k_block | apply k_block_ret | apply k_block_here | apply c_seq | apply c_block | apply c_region | apply c_skip | apply c_ret | apply c_exit | apply c_loop | apply k_loop_exit | apply k_loop_ret | apply if_t | apply if_f
  | (with_reducible apply k_block_on
     · decide)
  | ((with_reducible first | apply xOp | apply xDr | apply xIf); rfl; (simp only [Nat.reduceEqDiff, Nat.reduceAdd, ↓reduceIte, xBB, stG, opA, val, opdA, opdO, plainN, omap, binA, intBinA, loadV, readA, storeV, writeA, fieldAddrA, indexAddrA, lenA, builtinA, newA, unA, packA, Value.cells, h5, k1, k2, fd28_1, ty26, hbox, hc1, un26, hlt, sz58, hb, fd58_0, fd58_1, ty3, g1, p3, p4, hsh, hand, hbit, hb1, hsh2, hand2, hbit2, hb2, Bool.not_true, Bool.not_false, hw]; rfl); first | rfl | exact ⟨rfl, rfl, rfl⟩))
          intro _ _
          repeat (first
  | with_reducible first | apply ops_end | apply d_end | apply k_seq | apply k_seq_ret | apply k_seq_exit | apply k_block | apply k_block_ret | apply k_block_here | apply c_seq | apply c_block | apply c_region | apply c_skip | apply c_ret | apply c_exit | apply c_loop | apply k_loop_exit | apply k_loop_ret | apply if_t | apply if_f
  | (with_reducible apply k_block_on
     · decide)
  | ((with_reducible first | apply xOp | apply xDr | apply xIf); rfl; (simp only [Nat.reduceEqDiff, Nat.reduceAdd, ↓reduceIte, xBB, stG, opA, val, opdA, opdO, plainN, omap, binA, intBinA, loadV, readA, storeV, writeA, fieldAddrA, indexAddrA, lenA, builtinA, newA, unA, packA, Value.cells]; rfl); first | rfl | exact ⟨rfl, rfl, rfl⟩))
          intro _
          ((with_reducible first | apply ret_i | apply ret_n); (simp only [Nat.reduceEqDiff, Nat.reduceAdd, ↓reduceIte, xBB, resA, opdA, opdO, plainN, omap, val, loadV, readA, packA]; rfl))
          rw [closedB_not hjl' (by rw [hx, Int.toNat_natCast]; exact hb1) (by rw [hy, Int.toNat_natCast]; exact hb2)]
          rfl
    · repeat (first
  | with_reducible first | apply ops_end | apply d_end | apply k_seq | apply k_seq_ret | apply k_seq_exit | apply k_block | apply k_block_ret | apply k_block_here | apply c_seq | apply c_block | apply c_region | apply c_skip | apply c_ret | apply c_exit | apply c_loop | apply k_loop_exit | apply k_loop_ret | apply if_t | apply if_f
  | (with_reducible apply k_block_on
     · decide)
  | ((with_reducible first | apply xOp | apply xDr | apply xIf); rfl; (simp only [Nat.reduceEqDiff, Nat.reduceAdd, ↓reduceIte, xBB, stG, opA, val, opdA, opdO, plainN, omap, binA, intBinA, loadV, readA, storeV, writeA, fieldAddrA, indexAddrA, lenA, builtinA, newA, unA, packA, Value.cells, h5, k2, fd28_1, ty26, hbox, hc1, un26, hlt]; rfl); first | rfl | exact ⟨rfl, rfl, rfl⟩))
      intro _ _
      repeat (first
  | with_reducible first | apply ops_end | apply d_end | apply k_seq | apply k_seq_ret | apply k_seq_exit | apply k_block | apply k_block_ret | apply k_block_here | apply c_seq | apply c_block | apply c_region | apply c_skip | apply c_ret | apply c_exit | apply c_loop | apply k_loop_exit | apply k_loop_ret | apply if_t | apply if_f
  | (with_reducible apply k_block_on
     · decide)
  | ((with_reducible first | apply xOp | apply xDr | apply xIf); rfl; (simp only [Nat.reduceEqDiff, Nat.reduceAdd, ↓reduceIte, xBB, stG, opA, val, opdA, opdO, plainN, omap, binA, intBinA, loadV, readA, storeV, writeA, fieldAddrA, indexAddrA, lenA, builtinA, newA, unA, packA, Value.cells]; rfl); first | rfl | exact ⟨rfl, rfl, rfl⟩))
      intro _
      ((with_reducible first | apply ret_i | apply ret_n); (simp only [Nat.reduceEqDiff, Nat.reduceAdd, ↓reduceIte, xBB, resA, opdA, opdO, plainN, omap, val, loadV, readA, packA]; rfl))
      rw [List.take_of_length_le (by simp at hlt; omega)] at hcl
      rw [hcl]
      rfl

theorem f16_spec [Sorts Tryd.prog] (n : Nat) (es : List (Int × Int)) (ev : Value) (i : Nat) (s : HS) (hs : Sl s 2 ev (es.map encE)) (hg : GoodG n es) (hn : n < 62) (hi : i < n) :
    wpF Tryd.prog s.nx 16 [vG n ev, .int .i64 i] s (fun v s' => v = .int .i64 (compN n es i)) := by
  refine wpF_of Tryd.func16 rfl rfl rfl rfl (Nat.le_refl _) ?_
  simp only [paramsA, vG]
  repeat (first
  | with_reducible first | apply ops_end | apply d_end | apply k_seq | apply k_seq_ret | apply k_seq_exit | apply k_block | apply k_block_ret | apply k_block_here | apply c_seq | apply c_block | apply c_region | apply c_skip | apply c_ret | apply c_exit | apply c_loop | apply k_loop_exit | apply k_loop_ret | apply if_t | apply if_f
  | (with_reducible apply k_block_on
     · decide)
  | ((with_reducible first | apply xOp | apply xDr | apply xIf); rfl; (simp only [Nat.reduceEqDiff, Nat.reduceAdd, ↓reduceIte, xBB, stG, opA, val, opdA, opdO, plainN, omap, binA, intBinA, loadV, readA, storeV, writeA, fieldAddrA, indexAddrA, lenA, builtinA, newA, unA, packA, Value.cells]; rfl); first | rfl | exact ⟨rfl, rfl, rfl⟩))
  have hA0 := Ab.new (lk := s.nx) s (.cells true 28 [.int .i64 n, ev])
  have hs1 := hs.keep hA0
  refine loop_k (lk' := s.nx + 1) (s0 := ⟨_, s.nx + 1⟩) (fun m f t => ∃ k : Nat, k + m = n ∧ f.get 6 = some (.int .i64 k) ∧ f.get 5 = some (.int .i64 (compS n es i k))) n (Nat.le_succ _) (Nat.le_refl _) ?_ (Ab.refl _ _) ?_
  · exact ⟨0, by omega, by simp only [Nat.reduceEqDiff, T.get_put, ↓reduceIte]; rfl, by simp only [Nat.reduceEqDiff, T.get_put, ↓reduceIte]; rfl⟩
  · rintro m f t ⟨k, hk, h6, h5⟩ hA hF
    (have k1 := hF 1 (by rfl); simp only [Nat.reduceEqDiff, T.get_put, ↓reduceIte] at k1; have k2 := hF 2 (by rfl); simp only [Nat.reduceEqDiff, T.get_put, ↓reduceIte] at k2)
    have hbox := hA.get (Nat.le_refl _) (Nat.lt_succ_self s.nx)
    rw [T.get_put_eq] at hbox
    have hst := hs1.keep hA
    have hnx := hA.nx
    dsimp only at hnx
    have hc0 : cutL [Value.int .i64 (n : Int), ev] 0 1 = some [Value.int .i64 n] := rfl
    have hc2 : cutL [Value.int .i64 (n : Int), ev] 0 2 = some [Value.int .i64 n, ev] := rfl
    by_cases hlt : (k : Int) < (n : Int)
    · have hkn : k < n := by omega
      have hw : IntKind.i64.wrap ((k : Int) + 1) = ((k + 1 : Nat) : Int) := by rw [IntWalk.i64_in _ (by omega)]; rfl
      have hshl := shl_i64 (k := i) (by omega)
      have hshl2 := shl_i64 (k := k) (by omega)
      have hH3 : HN n es i < 2 ^ 63 := Nat.lt_of_lt_of_le (HN_lt hg hi) (Nat.pow_le_pow_right (by decide) (by omega))
      have hK3 : HN n es k < 2 ^ 63 := Nat.lt_of_lt_of_le (HN_lt hg hkn) (Nat.pow_le_pow_right (by decide) (by omega))
      have hsh := shr_i64 (a := HN n es i) (k := k) hH3
      have hand := and_one (a := HN n es i >>> k) (shr_lt hH3)
      have hbit := bit_eq (HN n es i) k
      have hsh2 := shr_i64 (a := HN n es k) (k := i) hK3
      have hand2 := and_one (a := HN n es k >>> i) (shr_lt hK3)
      have hbit2 := bit_eq (HN n es k) i
      repeat (first
  | with_reducible first | apply ops_end | apply d_end | apply k_seq | apply k_seq_ret | apply k_seq_exit | apply k_block | apply k_block_ret | apply k_block_here | apply c_seq | apply c_block | apply c_region | apply c_skip | apply c_ret | apply c_exit | apply c_loop | apply k_loop_exit | apply k_loop_ret | apply if_t | apply if_f
  | (with_reducible apply k_block_on
     · decide)
  | ((with_reducible first | apply xOp | apply xDr | apply xIf); rfl; (simp only [Nat.reduceEqDiff, Nat.reduceAdd, ↓reduceIte, xBB, stG, opA, val, opdA, opdO, plainN, omap, binA, intBinA, loadV, readA, storeV, writeA, fieldAddrA, indexAddrA, lenA, builtinA, newA, unA, packA, Value.cells, h6, k2, fd28_0, ty3, hbox, hc0, hlt]; rfl); first | rfl | exact ⟨rfl, rfl, rfl⟩))
      refine c_draw [⟨true, [], none⟩, ⟨false, [], none⟩, ⟨false, [], none⟩, ⟨true, [], none⟩, ⟨false, [], none⟩, ⟨true, [], none⟩, ⟨true, [], none⟩, ⟨true, [], none⟩, ⟨true, [], none⟩, ⟨true, [], none⟩, ⟨false, [], none⟩, ⟨false, [], none⟩, ⟨true, [], none⟩, ⟨false, [], none⟩, ⟨true, [], none⟩, ⟨true, [], none⟩, ⟨true, [], none⟩, ⟨true, [], none⟩] (by kernel_rfl) ?_
      repeat (first
  | with_reducible first | apply ops_end | apply d_end | apply k_seq | apply k_seq_ret | apply k_seq_exit | apply k_block | apply k_block_ret | apply k_block_here | apply c_seq | apply c_block | apply c_region | apply c_skip | apply c_ret | apply c_exit | apply c_loop | apply k_loop_exit | apply k_loop_ret | apply if_t | apply if_f
  | (with_reducible apply k_block_on
     · decide)
  | ((with_reducible first | apply xOp | apply xDr | apply xIf); rfl; (simp only [Nat.reduceEqDiff, Nat.reduceAdd, ↓reduceIte, xBB, stG, opA, val, opdA, opdO, plainN, omap, binA, intBinA, loadV, readA, storeV, writeA, fieldAddrA, indexAddrA, lenA, builtinA, newA, unA, packA, Value.cells, k1, k2, ty28, hbox, hc2, hshl]; rfl); first | rfl | exact ⟨rfl, rfl, rfl⟩))
      ((with_reducible first | apply xCa | apply xCd); rfl; (simp only [Nat.reduceEqDiff, Nat.reduceAdd, ↓reduceIte, xBB, stB, opdA, opdO, plainN, omap, val, Value.cells]; exact ⟨rfl, rfl⟩); try rfl)
      apply call_fn
      refine (f22_spec n es ev (2 ^ i) t hst hg (by omega) (Nat.pow_lt_pow_right (by decide) (by omega))).use (by first | exact Nat.le_refl _ | (simp only [cond_true, cond_false]; omega) | omega | (dsimp only; omega)) (by first | exact Nat.le_refl _ | (simp only [cond_true, cond_false]; omega) | omega | (dsimp only; omega)) fun v t1 hv hA1 => ?_
      subst hv
      rw [Int.toNat_natCast, show hullN es n (2 ^ i) = HN n es i from rfl]
      have hnx1 := hA1.nx
      have hbox1 := (hA1.get (Nat.le_refl _) (by omega)).trans hbox
      refine opt_of rfl ?_
      cases hb1 : (HN n es i).testBit k with
      | false =>
        have hm : mutB n es i k = false := by unfold mutB; rw [hb1]; rfl
        repeat (first
  | with_reducible first | apply ops_end | apply d_end | apply k_seq | apply k_seq_ret | apply k_seq_exit | apply k_block | apply k_block_ret | apply k_block_here | apply c_seq | apply c_block | apply c_region | apply c_skip | apply c_ret | apply c_exit | apply c_loop | apply k_loop_exit | apply k_loop_ret | apply if_t | apply if_f
  | (with_reducible apply k_block_on
     · decide)
  | ((with_reducible first | apply xOp | apply xDr | apply xIf); rfl; (simp only [Nat.reduceEqDiff, Nat.reduceAdd, ↓reduceIte, xBB, stG, opA, val, opdA, opdO, plainN, omap, binA, intBinA, loadV, readA, storeV, writeA, fieldAddrA, indexAddrA, lenA, builtinA, newA, unA, packA, Value.cells, h6, hsh, hand, hbit, hb1, hw]; rfl); first | rfl | exact ⟨rfl, rfl, rfl⟩))
        intro _ _
        refine k_loop_next (m' := m - 1) (by omega) ⟨k + 1, by omega, by simp only [Nat.reduceEqDiff, T.get_put, ↓reduceIte], ?_⟩
        simp only [Nat.reduceEqDiff, T.get_put, ↓reduceIte]
        rw [compS, hm]; exact h5
      | true =>
        repeat (first
  | with_reducible first | apply ops_end | apply d_end | apply k_seq | apply k_seq_ret | apply k_seq_exit | apply k_block | apply k_block_ret | apply k_block_here | apply c_seq | apply c_block | apply c_region | apply c_skip | apply c_ret | apply c_exit | apply c_loop | apply k_loop_exit | apply k_loop_ret | apply if_t | apply if_f
  | (with_reducible apply k_block_on
     · decide)
  | ((with_reducible first | apply xOp | apply xDr | apply xIf); rfl; (simp only [Nat.reduceEqDiff, Nat.reduceAdd, ↓reduceIte, xBB, stG, opA, val, opdA, opdO, plainN, omap, binA, intBinA, loadV, readA, storeV, writeA, fieldAddrA, indexAddrA, lenA, builtinA, newA, unA, packA, Value.cells, h6, hsh, hand, hbit, hb1, k2, ty28, hbox1, hc2, hshl2]; rfl); first | rfl | exact ⟨rfl, rfl, rfl⟩))
        ((with_reducible first | apply xCa | apply xCd); rfl; (simp only [Nat.reduceEqDiff, Nat.reduceAdd, ↓reduceIte, xBB, stB, opdA, opdO, plainN, omap, val, Value.cells]; exact ⟨rfl, rfl⟩); try rfl)
        apply call_fn
        refine (f22_spec n es ev (2 ^ k) t1 (hst.keep hA1) hg (by omega) (Nat.pow_lt_pow_right (by decide) (by omega))).use (by first | exact Nat.le_refl _ | (simp only [cond_true, cond_false]; omega) | omega | (dsimp only; omega)) (by first | exact Nat.le_refl _ | (simp only [cond_true, cond_false]; omega) | omega | (dsimp only; omega)) fun v t2 hv hA2 => ?_
        subst hv
        rw [Int.toNat_natCast, show hullN es n (2 ^ k) = HN n es k from rfl]
        refine opt_of rfl ?_
        cases hb2 : (HN n es k).testBit i with
        | false =>
          have hm : mutB n es i k = false := by unfold mutB; rw [hb1, hb2]; rfl
          repeat (first
  | with_reducible first | apply ops_end | apply d_end | apply k_seq | apply k_seq_ret | apply k_seq_exit | apply k_block | apply k_block_ret | apply k_block_here | apply c_seq | apply c_block | apply c_region | apply c_skip | apply c_ret | apply c_exit | apply c_loop | apply k_loop_exit | apply k_loop_ret | apply if_t | apply if_f
  | (with_reducible apply k_block_on
     · decide)
  | ((with_reducible first | apply xOp | apply xDr | apply xIf); rfl; (simp only [Nat.reduceEqDiff, Nat.reduceAdd, ↓reduceIte, xBB, stG, opA, val, opdA, opdO, plainN, omap, binA, intBinA, loadV, readA, storeV, writeA, fieldAddrA, indexAddrA, lenA, builtinA, newA, unA, packA, Value.cells, k1, h6, hsh2, hand2, hbit2, hb2, hw]; rfl); first | rfl | exact ⟨rfl, rfl, rfl⟩))
          intro _ _
          refine k_loop_next (m' := m - 1) (by omega) ⟨k + 1, by omega, by simp only [Nat.reduceEqDiff, T.get_put, ↓reduceIte], ?_⟩
          simp only [Nat.reduceEqDiff, T.get_put, ↓reduceIte]
          rw [compS, hm]; exact h5
        | true =>
          have hm : mutB n es i k = true := by unfold mutB; rw [hb1, hb2]; rfl
          have hS3 : compS n es i k < 2 ^ 63 := Nat.lt_of_lt_of_le (compS_lt k) (Nat.pow_le_pow_right (by decide) (by omega))
          have hor := or_i64 (a := compS n es i k) (b := 2 ^ k) hS3 (Nat.pow_lt_pow_right (by decide) (by omega))
          repeat (first
  | with_reducible first | apply ops_end | apply d_end | apply k_seq | apply k_seq_ret | apply k_seq_exit | apply k_block | apply k_block_ret | apply k_block_here | apply c_seq | apply c_block | apply c_region | apply c_skip | apply c_ret | apply c_exit | apply c_loop | apply k_loop_exit | apply k_loop_ret | apply if_t | apply if_f
  | (with_reducible apply k_block_on
     · decide)
  | ((with_reducible first | apply xOp | apply xDr | apply xIf); rfl; (simp only [Nat.reduceEqDiff, Nat.reduceAdd, ↓reduceIte, xBB, stG, opA, val, opdA, opdO, plainN, omap, binA, intBinA, loadV, readA, storeV, writeA, fieldAddrA, indexAddrA, lenA, builtinA, newA, unA, packA, Value.cells, k1, h5, h6, hsh2, hand2, hbit2, hb2, hshl2, hor, hw]; rfl); first | rfl | exact ⟨rfl, rfl, rfl⟩))
          intro _ _
          refine k_loop_next (m' := m - 1) (by omega) ⟨k + 1, by omega, by simp only [Nat.reduceEqDiff, T.get_put, ↓reduceIte], ?_⟩
          simp only [Nat.reduceEqDiff, T.get_put, ↓reduceIte]
          rw [compS, hm]; rfl
    · repeat (first
  | with_reducible first | apply ops_end | apply d_end | apply k_seq | apply k_seq_ret | apply k_seq_exit | apply k_block | apply k_block_ret | apply k_block_here | apply c_seq | apply c_block | apply c_region | apply c_skip | apply c_ret | apply c_exit | apply c_loop | apply k_loop_exit | apply k_loop_ret | apply if_t | apply if_f
  | (with_reducible apply k_block_on
     · decide)
  | ((with_reducible first | apply xOp | apply xDr | apply xIf); rfl; (simp only [Nat.reduceEqDiff, Nat.reduceAdd, ↓reduceIte, xBB, stG, opA, val, opdA, opdO, plainN, omap, binA, intBinA, loadV, readA, storeV, writeA, fieldAddrA, indexAddrA, lenA, builtinA, newA, unA, packA, Value.cells, h6, k2, fd28_0, ty3, hbox, hc0, hlt]; rfl); first | rfl | exact ⟨rfl, rfl, rfl⟩))
      intro _ _
      repeat (first
  | with_reducible first | apply ops_end | apply d_end | apply k_seq | apply k_seq_ret | apply k_seq_exit | apply k_block | apply k_block_ret | apply k_block_here | apply c_seq | apply c_block | apply c_region | apply c_skip | apply c_ret | apply c_exit | apply c_loop | apply k_loop_exit | apply k_loop_ret | apply if_t | apply if_f
  | (with_reducible apply k_block_on
     · decide)
  | ((with_reducible first | apply xOp | apply xDr | apply xIf); rfl; (simp only [Nat.reduceEqDiff, Nat.reduceAdd, ↓reduceIte, xBB, stG, opA, val, opdA, opdO, plainN, omap, binA, intBinA, loadV, readA, storeV, writeA, fieldAddrA, indexAddrA, lenA, builtinA, newA, unA, packA, Value.cells, h5]; rfl); first | rfl | exact ⟨rfl, rfl, rfl⟩))
      intro _
      ((with_reducible first | apply ret_i | apply ret_n); (simp only [Nat.reduceEqDiff, Nat.reduceAdd, ↓reduceIte, xBB, resA, opdA, opdO, plainN, omap, val, loadV, readA, packA]; rfl))
      have hkn : k = n := by omega
      subst hkn; rfl
end Go.Ev

/- limits.allows, removable.restricted. -/
namespace Go.Ev
open Go Go.Proofs
set_option linter.unusedSimpArgs false
set_option linter.unusedVariables false
set_option maxRecDepth 100000
set_option maxHeartbeats 4000000
attribute [local irreducible] wpOps wpC wpD wpF wpLoop wpCall seqK blockK loopK retK T.put T.get T.setF

/-- limits.allows. -/
def allowB (all : Nat) (most wo : Int) (a : Nat) : Bool := decide (a ≠ all) && (decide (most = 0) || decide (onesI a ≤ most)) && (decide (wo < 0) || !a.testBit wo.toNat)
def vL (all : Nat) (most wo : Int) : Value := .agg #[.int .u64 all, .int .i64 most, .int .i64 wo]

theorem f32_spec [Sorts Tryd.prog] (all : Nat) (most wo : Int) (a : Nat) (s : HS) (ha : a < 18446744073709551616) : wpF Tryd.prog s.nx 32 [vL all most wo, .int .u64 a] s (fun v s' => v = .bool (allowB all most wo a)) := by
  have hbox : ∀ cs : List Value, ∀ x y z : Value, cs = [x, y, z] → cutL cs 0 1 = some [x] ∧ cutL cs 1 1 = some [y] ∧ cutL cs 2 1 = some [z] := fun cs x y z h => by subst h; exact ⟨rfl, rfl, rfl⟩
  obtain ⟨c0, c1, c2⟩ := hbox _ (.int .u64 all) (.int .i64 most) (.int .i64 wo) rfl
  refine wpF_of Tryd.func32 rfl rfl rfl rfl (Nat.le_refl _) ?_
  simp only [paramsA, vL]
  repeat (first
  | with_reducible first | apply ops_end | apply d_end | apply k_seq | apply k_seq_ret | apply k_seq_exit | apply k_block | apply k_block_ret | apply k_block_here | apply c_seq | apply c_block | apply c_region | apply c_skip | apply c_ret | apply c_exit | apply c_loop | apply k_loop_exit | apply k_loop_ret | apply if_t | apply if_f
  | (with_reducible apply k_block_on
     · decide)
  | ((with_reducible first | apply xOp | apply xDr | apply xIf); rfl; (simp only [Nat.reduceEqDiff, Nat.reduceAdd, ↓reduceIte, xBB, stG, undef, opA, val, opdA, opdO, plainN, omap, binA, intBinA, loadV, readA, storeV, writeA, fieldAddrA, indexAddrA, lenA, builtinA, newA, unA, packA, Value.cells, sz62]; rfl); first | rfl | exact ⟨rfl, rfl, rfl⟩))
  refine c_draw [⟨false, [], none⟩, ⟨true, [], none⟩, ⟨true, [], none⟩, ⟨true, [], none⟩, ⟨true, [], none⟩, ⟨true, [], none⟩, ⟨true, [], none⟩, ⟨true, [], none⟩, ⟨true, [], none⟩, ⟨false, [], none⟩, ⟨false, [], none⟩, ⟨false, [], none⟩, ⟨false, [10], none⟩, ⟨true, [], none⟩, ⟨true, [], none⟩, ⟨true, [], none⟩, ⟨true, [], none⟩, ⟨true, [], none⟩, ⟨true, [], none⟩, ⟨true, [], none⟩, ⟨true, [], none⟩, ⟨false, [], none⟩, ⟨true, [], none⟩, ⟨true, [], none⟩, ⟨true, [], none⟩, ⟨true, [], none⟩, ⟨true, [], none⟩, ⟨true, [], none⟩, ⟨true, [], none⟩, ⟨true, [], none⟩] (by kernel_rfl) ?_
  by_cases h1 : a = all
  · have e1 : ((a : Int) != (all : Int)) = false := by simp [h1]
    repeat (first
  | with_reducible first | apply ops_end | apply d_end | apply k_seq | apply k_seq_ret | apply k_seq_exit | apply k_block | apply k_block_ret | apply k_block_here | apply c_seq | apply c_block | apply c_region | apply c_skip | apply c_ret | apply c_exit | apply c_loop | apply k_loop_exit | apply k_loop_ret | apply if_t | apply if_f
  | (with_reducible apply k_block_on
     · decide)
  | ((with_reducible first | apply xOp | apply xDr | apply xIf); rfl; (simp only [Nat.reduceEqDiff, Nat.reduceAdd, ↓reduceIte, xBB, stG, undef, opA, val, opdA, opdO, plainN, omap, binA, intBinA, loadV, readA, storeV, writeA, fieldAddrA, indexAddrA, lenA, builtinA, newA, unA, packA, Value.cells, fd62_0, ty60, c0, e1]; rfl); first | rfl | exact ⟨rfl, rfl, rfl⟩))
    intro _
    ((with_reducible first | apply ret_i | apply ret_n); (simp only [Nat.reduceEqDiff, Nat.reduceAdd, ↓reduceIte, xBB, resA, opdA, opdO, plainN, omap, val, loadV, readA, packA]; rfl))
    unfold allowB
    rw [decide_eq_false (fun h => h h1)]; rfl
  · have e1 : ((a : Int) != (all : Int)) = true := by simp; omega
    have d1 : decide (a ≠ all) = true := decide_eq_true h1
    have hrest : ∃ r : Bool, (decide (wo < 0) || !a.testBit wo.toNat) = r ∧ ((wo < 0 ∧ r = true) ∨ (¬ wo < 0 ∧ ∃ x y : Int, shiftA .shr .u64 (a : Int) wo = some (.int .u64 x) ∧ IntKind.u64.wrap ((BitVec.ofInt IntKind.u64.bits x &&& BitVec.ofInt IntKind.u64.bits 1).toNat : Int) = y ∧ (y == 0) = r)) := by
      by_cases h5 : wo < 0
      · exact ⟨true, by simp [h5], Or.inl ⟨h5, rfl⟩⟩
      · obtain ⟨k, rfl⟩ : ∃ k : Nat, wo = (k : Int) := ⟨wo.toNat, by omega⟩
        refine ⟨!a.testBit k, by rw [decide_eq_false h5]; simp, Or.inr ⟨h5, _, _, shr_u64 ha, and_u64 (b := 1) (shr_lt64 ha) (by decide), bit_eq0 a k⟩⟩
    obtain ⟨r, hr, hr2⟩ := hrest
    unfold allowB
    rw [d1, hr, Bool.true_and]
    by_cases h2 : most = 0
    · have e2 : (most == 0) = true := by simp [h2]
      rw [decide_eq_true h2, Bool.true_or, Bool.true_and]
      rcases hr2 with ⟨h5, rfl⟩ | ⟨h5, x, y, e5, e6, e7⟩
      · repeat (first
  | with_reducible first | apply ops_end | apply d_end | apply k_seq | apply k_seq_ret | apply k_seq_exit | apply k_block | apply k_block_ret | apply k_block_here | apply c_seq | apply c_block | apply c_region | apply c_skip | apply c_ret | apply c_exit | apply c_loop | apply k_loop_exit | apply k_loop_ret | apply if_t | apply if_f
  | (with_reducible apply k_block_on
     · decide)
  | ((with_reducible first | apply xOp | apply xDr | apply xIf); rfl; (simp only [Nat.reduceEqDiff, Nat.reduceAdd, ↓reduceIte, xBB, stG, undef, opA, val, opdA, opdO, plainN, omap, binA, intBinA, loadV, readA, storeV, writeA, fieldAddrA, indexAddrA, lenA, builtinA, newA, unA, packA, Value.cells, fd62_0, fd62_1, fd62_2, ty60, ty3, c0, c1, c2, e1, e2, h5]; rfl); first | rfl | exact ⟨rfl, rfl, rfl⟩))
        intro _
        ((with_reducible first | apply ret_i | apply ret_n); (simp only [Nat.reduceEqDiff, Nat.reduceAdd, ↓reduceIte, xBB, resA, opdA, opdO, plainN, omap, val, loadV, readA, packA]; rfl))
        rfl
      · repeat (first
  | with_reducible first | apply ops_end | apply d_end | apply k_seq | apply k_seq_ret | apply k_seq_exit | apply k_block | apply k_block_ret | apply k_block_here | apply c_seq | apply c_block | apply c_region | apply c_skip | apply c_ret | apply c_exit | apply c_loop | apply k_loop_exit | apply k_loop_ret | apply if_t | apply if_f
  | (with_reducible apply k_block_on
     · decide)
  | ((with_reducible first | apply xOp | apply xDr | apply xIf); rfl; (simp only [Nat.reduceEqDiff, Nat.reduceAdd, ↓reduceIte, xBB, stG, undef, opA, val, opdA, opdO, plainN, omap, binA, intBinA, loadV, readA, storeV, writeA, fieldAddrA, indexAddrA, lenA, builtinA, newA, unA, packA, Value.cells, fd62_0, fd62_1, fd62_2, ty60, ty3, c0, c1, c2, e1, e2, h5, e5, e6, e7]; rfl); first | rfl | exact ⟨rfl, rfl, rfl⟩))
        intro _
        ((with_reducible first | apply ret_i | apply ret_n); (simp only [Nat.reduceEqDiff, Nat.reduceAdd, ↓reduceIte, xBB, resA, opdA, opdO, plainN, omap, val, loadV, readA, packA]; rfl))
        rfl
    · have e2 : (most == 0) = false := by simp [h2]
      rw [decide_eq_false h2, Bool.false_or]
      repeat (first
  | with_reducible first | apply ops_end | apply d_end | apply k_seq | apply k_seq_ret | apply k_seq_exit | apply k_block | apply k_block_ret | apply k_block_here | apply c_seq | apply c_block | apply c_region | apply c_skip | apply c_ret | apply c_exit | apply c_loop | apply k_loop_exit | apply k_loop_ret | apply if_t | apply if_f
  | (with_reducible apply k_block_on
     · decide)
  | ((with_reducible first | apply xOp | apply xDr | apply xIf); rfl; (simp only [Nat.reduceEqDiff, Nat.reduceAdd, ↓reduceIte, xBB, stG, undef, opA, val, opdA, opdO, plainN, omap, binA, intBinA, loadV, readA, storeV, writeA, fieldAddrA, indexAddrA, lenA, builtinA, newA, unA, packA, Value.cells, fd62_0, fd62_1, fd62_2, ty60, ty3, c0, c1, c2, e1, e2]; rfl); first | rfl | exact ⟨rfl, rfl, rfl⟩))
      ((with_reducible apply xCs); rfl; (simp only [Nat.reduceEqDiff, Nat.reduceAdd, ↓reduceIte, xBB, stB, opdA, opdO, plainN, omap, val, Value.cells]; exact ⟨rfl, rfl⟩); rfl)
      apply call_fn
      refine (f45_spec a _ ha).use (by first | exact Nat.le_refl _ | (simp only [cond_true, cond_false]; omega) | omega | (dsimp only; omega)) (by first | exact Nat.le_refl _ | (simp only [cond_true, cond_false]; omega) | omega | (dsimp only; omega)) fun v s1 hv _ => ?_
      obtain ⟨rfl, rfl⟩ := hv
      refine ⟨rfl, ?_⟩
      refine opt_of rfl ?_
      by_cases h4 : onesI a ≤ most
      · rw [decide_eq_true h4, Bool.true_and]
        rcases hr2 with ⟨h5, rfl⟩ | ⟨h5, x, y, e5, e6, e7⟩
        · repeat (first
  | with_reducible first | apply ops_end | apply d_end | apply k_seq | apply k_seq_ret | apply k_seq_exit | apply k_block | apply k_block_ret | apply k_block_here | apply c_seq | apply c_block | apply c_region | apply c_skip | apply c_ret | apply c_exit | apply c_loop | apply k_loop_exit | apply k_loop_ret | apply if_t | apply if_f
  | (with_reducible apply k_block_on
     · decide)
  | ((with_reducible first | apply xOp | apply xDr | apply xIf); rfl; (simp only [Nat.reduceEqDiff, Nat.reduceAdd, ↓reduceIte, xBB, stG, undef, opA, val, opdA, opdO, plainN, omap, binA, intBinA, loadV, readA, storeV, writeA, fieldAddrA, indexAddrA, lenA, builtinA, newA, unA, packA, Value.cells, fd62_0, fd62_1, fd62_2, ty60, ty3, c0, c1, c2, e1, e2, h4, h5]; rfl); first | rfl | exact ⟨rfl, rfl, rfl⟩))
          intro _
          ((with_reducible first | apply ret_i | apply ret_n); (simp only [Nat.reduceEqDiff, Nat.reduceAdd, ↓reduceIte, xBB, resA, opdA, opdO, plainN, omap, val, loadV, readA, packA]; rfl))
          rfl
        · repeat (first
  | with_reducible first | apply ops_end | apply d_end | apply k_seq | apply k_seq_ret | apply k_seq_exit | apply k_block | apply k_block_ret | apply k_block_here | apply c_seq | apply c_block | apply c_region | apply c_skip | apply c_ret | apply c_exit | apply c_loop | apply k_loop_exit | apply k_loop_ret | apply if_t | apply if_f
  | (with_reducible apply k_block_on
     · decide)
  | ((with_reducible first | apply xOp | apply xDr | apply xIf); rfl; (simp only [Nat.reduceEqDiff, Nat.reduceAdd, ↓reduceIte, xBB, stG, undef, opA, val, opdA, opdO, plainN, omap, binA, intBinA, loadV, readA, storeV, writeA, fieldAddrA, indexAddrA, lenA, builtinA, newA, unA, packA, Value.cells, fd62_0, fd62_1, fd62_2, ty60, ty3, c0, c1, c2, e1, e2, h4, h5, e5, e6, e7]; rfl); first | rfl | exact ⟨rfl, rfl, rfl⟩))
          intro _
          ((with_reducible first | apply ret_i | apply ret_n); (simp only [Nat.reduceEqDiff, Nat.reduceAdd, ↓reduceIte, xBB, resA, opdA, opdO, plainN, omap, val, loadV, readA, packA]; rfl))
          rfl
      · rw [decide_eq_false h4, Bool.false_and]
        repeat (first
  | with_reducible first | apply ops_end | apply d_end | apply k_seq | apply k_seq_ret | apply k_seq_exit | apply k_block | apply k_block_ret | apply k_block_here | apply c_seq | apply c_block | apply c_region | apply c_skip | apply c_ret | apply c_exit | apply c_loop | apply k_loop_exit | apply k_loop_ret | apply if_t | apply if_f
  | (with_reducible apply k_block_on
     · decide)
  | ((with_reducible first | apply xOp | apply xDr | apply xIf); rfl; (simp only [Nat.reduceEqDiff, Nat.reduceAdd, ↓reduceIte, xBB, stG, undef, opA, val, opdA, opdO, plainN, omap, binA, intBinA, loadV, readA, storeV, writeA, fieldAddrA, indexAddrA, lenA, builtinA, newA, unA, packA, Value.cells, fd62_0, fd62_1, fd62_2, ty60, ty3, c0, c1, c2, e1, e2, h4]; rfl); first | rfl | exact ⟨rfl, rfl, rfl⟩))
        intro _
        ((with_reducible first | apply ret_i | apply ret_n); (simp only [Nat.reduceEqDiff, Nat.reduceAdd, ↓reduceIte, xBB, resA, opdA, opdO, plainN, omap, val, loadV, readA, packA]; rfl))
        rfl

/-- removable.restricted. -/
def restR (n : Int) (es : List (Int × Int)) (most wo : Int) : Int := if checkR n es ≠ 0 then checkR n es else if most < 0 ∨ wo < -1 ∨ wo ≥ n then 2 else 0
theorem or_bits {k : Nat} : (2 ^ k - 1) ||| 2 ^ k = 2 ^ (k + 1) - 1 := by
  refine Nat.eq_of_testBit_eq fun j => ?_
  rw [setBit, Nat.testBit_two_pow_sub_one, Nat.testBit_two_pow_sub_one, Bool.eq_iff_iff]
  simp; omega

theorem build62 (x y z : Int) : buildA Tryd.prog 62 [(0, .int .u64 x), (1, .int .i64 y), (2, .int .i64 z)] = some (.agg #[.int .u64 x, .int .i64 y, .int .i64 z]) := by
  obtain ⟨fs, hu, ho⟩ : ∃ fs, Tryd.prog.underlying 62 = some (.struct fs) ∧ (omap (fun (f : Field) => (szA Tryd.prog f.type).map fun n => (f.offset, n)) fs.toList) = some [(0, 1), (1, 1), (2, 1)] := by
    refine ⟨_, rfl, ?_⟩
    kernel_rfl
  unfold buildA
  simp only [zr62, Option.bind_some]
  rw [hu]
  simp only
  rw [ho]
  rfl

theorem f28_spec [Sorts Tryd.prog] (n : Int) (es : List (Int × Int)) (ev : Value) (most wo : Int) (s : HS) (hs : Sl s 2 ev (es.map encE)) :
    wpF Tryd.prog s.nx 28 [vG n ev, .int .i64 most, .int .i64 wo] s (fun v s' => v = .tuple #[if restR n es most wo = 0 then vL (2 ^ n.toNat - 1) most wo else vL 0 0 0, .int .i64 (restR n es most wo)]) := by
  have hbuild0 : buildA Tryd.prog 62 [] = some (vL 0 0 0) := by kernel_rfl
  have hone : ∀ a b c : Int, ([Value.int .u64 a, .int .i64 b, .int .i64 c] : List Value).all Value.oneCell' = true := fun _ _ _ => rfl
  refine wpF_of Tryd.func28 rfl rfl rfl rfl (Nat.le_refl _) ?_
  simp only [paramsA, vG]
  have hc2' : cutL [Value.int .i64 n, ev] 0 2 = some [.int .i64 n, ev] := rfl
  repeat (first
  | with_reducible first | apply ops_end | apply d_end | apply k_seq | apply k_seq_ret | apply k_seq_exit | apply k_block | apply k_block_ret | apply k_block_here | apply c_seq | apply c_block | apply c_region | apply c_skip | apply c_ret | apply c_exit | apply c_loop | apply k_loop_exit | apply k_loop_ret | apply if_t | apply if_f
  | (with_reducible apply k_block_on
     · decide)
  | ((with_reducible first | apply xOp | apply xDr | apply xIf); rfl; (simp only [Nat.reduceEqDiff, Nat.reduceAdd, ↓reduceIte, xBB, stG, undef, opA, val, opdA, opdO, plainN, omap, binA, intBinA, loadV, readA, storeV, writeA, fieldAddrA, indexAddrA, lenA, builtinA, newA, unA, packA, Value.cells, zr62, sz62, sz28, ty28, hc2', List.toList_toArray]; rfl); first | rfl | exact ⟨rfl, rfl, rfl⟩))
  have hA0 := (Ab.new (lk := s.nx) s (.cells true 28 [.int .i64 n, ev])).trans (Ab.new (lk := s.nx) _ (.cells true 62 [.int .u64 0, .int .i64 0, .int .i64 0]))
  ((with_reducible first | apply xCa | apply xCd); rfl; (simp only [Nat.reduceEqDiff, Nat.reduceAdd, ↓reduceIte, xBB, stB, opdA, opdO, plainN, omap, val, Value.cells]; exact ⟨rfl, rfl⟩); try rfl)
  apply call_fn
  refine (f36_spec n es ev _ (hs.keep hA0)).use (by first | exact Nat.le_refl _ | (simp only [cond_true, cond_false]; omega) | omega | (dsimp only; omega)) (by first | exact Nat.le_refl _ | (simp only [cond_true, cond_false]; omega) | omega | (dsimp only; omega)) fun v s1 hv hA1 => ?_
  subst hv
  have hn1 := hA1.nx
  dsimp only at hn1
  have hb0 := hA1.get (Nat.le_refl _) (show s.nx < s.nx + 1 + 1 by omega)
  have hb1 := hA1.get (Nat.le_refl _) (Nat.lt_succ_self (s.nx + 1))
  rw [T.get_put_ne _ _ _ (show s.nx ≠ s.nx + 1 by omega), T.get_put_eq] at hb0
  rw [T.get_put_eq] at hb1
  have hc2 : cutL [Value.int .i64 n, ev] 0 2 = some [.int .i64 n, ev] := rfl
  have hc1 : cutL [Value.int .i64 n, ev] 0 1 = some [.int .i64 n] := rfl
  have hlo : s.nx ≤ s.nx + 1 := Nat.le_succ _
  have hput : ∀ a b c : Int, putL [Value.int .u64 0, .int .i64 0, .int .i64 0] 0 [.int .u64 a, .int .i64 b, .int .i64 c] = [.int .u64 a, .int .i64 b, .int .i64 c] := fun _ _ _ => rfl
  have hcut : ∀ a b c : Value, cutL [a, b, c] 0 3 = some [a, b, c] := fun _ _ _ => rfl
  have hl1 : s.nx ≤ s.nx + 1 := Nat.le_succ _
  refine opt_of rfl ?_
  by_cases h0 : checkR n es = 0
  · have hg := good_of h0
    have e0 : (checkR n es != 0) = false := by simp [h0]
    by_cases h1 : most < 0 ∨ wo < -1 ∨ wo ≥ n
    · have hR : restR n es most wo = 2 := by unfold restR; rw [if_neg (by simpa using h0), if_pos h1]
      rw [hR]
      by_cases q1 : most < 0
      · repeat (first
  | with_reducible first | apply ops_end | apply d_end | apply k_seq | apply k_seq_ret | apply k_seq_exit | apply k_block | apply k_block_ret | apply k_block_here | apply c_seq | apply c_block | apply c_region | apply c_skip | apply c_ret | apply c_exit | apply c_loop | apply k_loop_exit | apply k_loop_ret | apply if_t | apply if_f
  | (with_reducible apply k_block_on
     · decide)
  | ((with_reducible first | apply xOp | apply xDr | apply xIf); rfl; (simp only [Nat.reduceEqDiff, Nat.reduceAdd, ↓reduceIte, xBB, stG, undef, opA, val, opdA, opdO, plainN, omap, binA, intBinA, loadV, readA, storeV, writeA, fieldAddrA, indexAddrA, lenA, builtinA, newA, unA, packA, Value.cells, e0, q1, hbuild0, vL, sz62, hb1, hone, hput, List.toList_toArray]; rfl); first | rfl | exact ⟨rfl, rfl, rfl⟩))
        intro _
        ((with_reducible first | apply ret_i | apply ret_n); (simp only [Nat.reduceEqDiff, Nat.reduceAdd, ↓reduceIte, xBB, resA, opdA, opdO, plainN, omap, val, loadV, readA, packA, hb1, ty62, hcut]; rfl))
        rfl
      · by_cases q2 : wo < -1
        · repeat (first
  | with_reducible first | apply ops_end | apply d_end | apply k_seq | apply k_seq_ret | apply k_seq_exit | apply k_block | apply k_block_ret | apply k_block_here | apply c_seq | apply c_block | apply c_region | apply c_skip | apply c_ret | apply c_exit | apply c_loop | apply k_loop_exit | apply k_loop_ret | apply if_t | apply if_f
  | (with_reducible apply k_block_on
     · decide)
  | ((with_reducible first | apply xOp | apply xDr | apply xIf); rfl; (simp only [Nat.reduceEqDiff, Nat.reduceAdd, ↓reduceIte, xBB, stG, undef, opA, val, opdA, opdO, plainN, omap, binA, intBinA, loadV, readA, storeV, writeA, fieldAddrA, indexAddrA, lenA, builtinA, newA, unA, packA, Value.cells, e0, q1, q2, hbuild0, vL, sz62, hb1, hone, hput, List.toList_toArray]; rfl); first | rfl | exact ⟨rfl, rfl, rfl⟩))
          intro _
          ((with_reducible first | apply ret_i | apply ret_n); (simp only [Nat.reduceEqDiff, Nat.reduceAdd, ↓reduceIte, xBB, resA, opdA, opdO, plainN, omap, val, loadV, readA, packA, hb1, ty62, hcut]; rfl))
          rfl
        · have q3 : wo ≥ n := by omega
          repeat (first
  | with_reducible first | apply ops_end | apply d_end | apply k_seq | apply k_seq_ret | apply k_seq_exit | apply k_block | apply k_block_ret | apply k_block_here | apply c_seq | apply c_block | apply c_region | apply c_skip | apply c_ret | apply c_exit | apply c_loop | apply k_loop_exit | apply k_loop_ret | apply if_t | apply if_f
  | (with_reducible apply k_block_on
     · decide)
  | ((with_reducible first | apply xOp | apply xDr | apply xIf); rfl; (simp only [Nat.reduceEqDiff, Nat.reduceAdd, ↓reduceIte, xBB, stG, undef, opA, val, opdA, opdO, plainN, omap, binA, intBinA, loadV, readA, storeV, writeA, fieldAddrA, indexAddrA, lenA, builtinA, newA, unA, packA, Value.cells, e0, q1, q2, q3, hb0, fd28_0, ty3, hc1, hbuild0, vL, sz62, hb1, hone, hput, List.toList_toArray]; rfl); first | rfl | exact ⟨rfl, rfl, rfl⟩))
          intro _
          ((with_reducible first | apply ret_i | apply ret_n); (simp only [Nat.reduceEqDiff, Nat.reduceAdd, ↓reduceIte, xBB, resA, opdA, opdO, plainN, omap, val, loadV, readA, packA, hb1, ty62, hcut]; rfl))
          rfl
    · have hR : restR n es most wo = 0 := by unfold restR; rw [if_neg (by simpa using h0), if_neg h1]
      rw [hR, if_pos rfl]
      have q1 : ¬ most < 0 := by omega
      have q2 : ¬ wo < -1 := by omega
      have q3 : ¬ wo ≥ n := by omega
      have hgh := hg.hi
      have hg0 := hg.lo
      repeat (first
  | with_reducible first | apply ops_end | apply d_end | apply k_seq | apply k_seq_ret | apply k_seq_exit | apply k_block | apply k_block_ret | apply k_block_here | apply c_seq | apply c_block | apply c_region | apply c_skip | apply c_ret | apply c_exit | apply c_loop | apply k_loop_exit | apply k_loop_ret | apply if_t | apply if_f
  | (with_reducible apply k_block_on
     · decide)
  | ((with_reducible first | apply xOp | apply xDr | apply xIf); rfl; (simp only [Nat.reduceEqDiff, Nat.reduceAdd, ↓reduceIte, xBB, stG, undef, opA, val, opdA, opdO, plainN, omap, binA, intBinA, loadV, readA, storeV, writeA, fieldAddrA, indexAddrA, lenA, builtinA, newA, unA, packA, Value.cells, e0, q1, q2, q3, hb0, fd28_0, ty3, hc1]; rfl); first | rfl | exact ⟨rfl, rfl, rfl⟩))
      refine loop_k (lk' := s.nx) (s0 := s1) (fun m f t => t = s1 ∧ ∃ k : Nat, k + m = n.toNat ∧ f.get 32 = some (.int .i64 k) ∧ f.get 9 = some (.int .u64 ((2 ^ k - 1 : Nat)))) n.toNat (Nat.le_refl _) (by omega) ?_ (Ab.refl _ _) ?_
      · exact ⟨rfl, 0, by omega, by simp only [Nat.reduceEqDiff, T.get_put, ↓reduceIte]; rfl, by simp only [Nat.reduceEqDiff, T.get_put, ↓reduceIte]; rfl⟩
      · rintro m f t ⟨rfl, k, hk, h32, h9⟩ hA hF
        (have k1 := hF 1 (by rfl); simp only [Nat.reduceEqDiff, T.get_put, ↓reduceIte] at k1; have k2 := hF 2 (by rfl); simp only [Nat.reduceEqDiff, T.get_put, ↓reduceIte] at k2; have k6 := hF 6 (by rfl); simp only [Nat.reduceEqDiff, T.get_put, ↓reduceIte] at k6; have k31 := hF 31 (by rfl); simp only [Nat.reduceEqDiff, T.get_put, ↓reduceIte] at k31)
        by_cases hlt : (k : Int) < n
        · have hw : IntKind.i64.wrap ((k : Int) + 1) = ((k + 1 : Nat) : Int) := by rw [IntWalk.i64_in _ (by omega)]; rfl
          have hk64 : k < 64 := by omega
          have hsh := shl_u64 (k := k) hk64
          have hp := pow_lt64 hk64
          have hor := or_u64 (a := 2 ^ k - 1) (b := 2 ^ k) (by omega) hp
          rw [or_bits] at hor
          repeat (first
  | with_reducible first | apply ops_end | apply d_end | apply k_seq | apply k_seq_ret | apply k_seq_exit | apply k_block | apply k_block_ret | apply k_block_here | apply c_seq | apply c_block | apply c_region | apply c_skip | apply c_ret | apply c_exit | apply c_loop | apply k_loop_exit | apply k_loop_ret | apply if_t | apply if_f
  | (with_reducible apply k_block_on
     · decide)
  | ((with_reducible first | apply xOp | apply xDr | apply xIf); rfl; (simp only [Nat.reduceEqDiff, Nat.reduceAdd, ↓reduceIte, xBB, stG, undef, opA, val, opdA, opdO, plainN, omap, binA, intBinA, loadV, readA, storeV, writeA, fieldAddrA, indexAddrA, lenA, builtinA, newA, unA, packA, Value.cells, h32, h9, k31, hlt, hsh, hor, hw]; rfl); first | rfl | exact ⟨rfl, rfl, rfl⟩))
          intro _ _
          exact k_loop_next (m' := m - 1) (by omega) ⟨rfl, k + 1, by omega, by simp only [Nat.reduceEqDiff, T.get_put, ↓reduceIte], by simp only [Nat.reduceEqDiff, T.get_put, ↓reduceIte]⟩
        · have hkn : n.toNat = k := by omega
          have hb62 : ∀ x y z : Int, buildA Tryd.prog 62 [(0, .int .u64 x), (1, .int .i64 y), (2, .int .i64 z)] = some (.agg #[.int .u64 x, .int .i64 y, .int .i64 z]) := build62
          repeat (first
  | with_reducible first | apply ops_end | apply d_end | apply k_seq | apply k_seq_ret | apply k_seq_exit | apply k_block | apply k_block_ret | apply k_block_here | apply c_seq | apply c_block | apply c_region | apply c_skip | apply c_ret | apply c_exit | apply c_loop | apply k_loop_exit | apply k_loop_ret | apply if_t | apply if_f
  | (with_reducible apply k_block_on
     · decide)
  | ((with_reducible first | apply xOp | apply xDr | apply xIf); rfl; (simp only [Nat.reduceEqDiff, Nat.reduceAdd, ↓reduceIte, xBB, stG, undef, opA, val, opdA, opdO, plainN, omap, binA, intBinA, loadV, readA, storeV, writeA, fieldAddrA, indexAddrA, lenA, builtinA, newA, unA, packA, Value.cells, h32, k31, hlt]; rfl); first | rfl | exact ⟨rfl, rfl, rfl⟩))
          intro _ _
          repeat (first
  | with_reducible first | apply ops_end | apply d_end | apply k_seq | apply k_seq_ret | apply k_seq_exit | apply k_block | apply k_block_ret | apply k_block_here | apply c_seq | apply c_block | apply c_region | apply c_skip | apply c_ret | apply c_exit | apply c_loop | apply k_loop_exit | apply k_loop_ret | apply if_t | apply if_f
  | (with_reducible apply k_block_on
     · decide)
  | ((with_reducible first | apply xOp | apply xDr | apply xIf); rfl; (simp only [Nat.reduceEqDiff, Nat.reduceAdd, ↓reduceIte, xBB, stG, undef, opA, val, opdA, opdO, plainN, omap, binA, intBinA, loadV, readA, storeV, writeA, fieldAddrA, indexAddrA, lenA, builtinA, newA, unA, packA, Value.cells, h9, k1, k2, k6, hb62, vL, sz62, hb1, hone, hput, List.toList_toArray]; rfl); first | rfl | exact ⟨rfl, rfl, rfl⟩))
          intro _
          ((with_reducible first | apply ret_i | apply ret_n); (simp only [Nat.reduceEqDiff, Nat.reduceAdd, ↓reduceIte, xBB, resA, opdA, opdO, plainN, omap, val, loadV, readA, packA, k6, hb1, ty62, hcut]; rfl))
          rw [hkn]; rfl
  · have e0 : (checkR n es != 0) = true := by simp [h0]
    have hR : restR n es most wo = checkR n es := by unfold restR; rw [if_pos h0]
    rw [hR, if_neg h0]
    repeat (first
  | with_reducible first | apply ops_end | apply d_end | apply k_seq | apply k_seq_ret | apply k_seq_exit | apply k_block | apply k_block_ret | apply k_block_here | apply c_seq | apply c_block | apply c_region | apply c_skip | apply c_ret | apply c_exit | apply c_loop | apply k_loop_exit | apply k_loop_ret | apply if_t | apply if_f
  | (with_reducible apply k_block_on
     · decide)
  | ((with_reducible first | apply xOp | apply xDr | apply xIf); rfl; (simp only [Nat.reduceEqDiff, Nat.reduceAdd, ↓reduceIte, xBB, stG, undef, opA, val, opdA, opdO, plainN, omap, binA, intBinA, loadV, readA, storeV, writeA, fieldAddrA, indexAddrA, lenA, builtinA, newA, unA, packA, Value.cells, e0, hbuild0, vL, sz62, hb1, hone, hput, List.toList_toArray]; rfl); first | rfl | exact ⟨rfl, rfl, rfl⟩))
    intro _
    ((with_reducible first | apply ret_i | apply ret_n); (simp only [Nat.reduceEqDiff, Nat.reduceAdd, ↓reduceIte, xBB, resA, opdA, opdO, plainN, omap, val, loadV, readA, packA, hb1, ty62, hcut]; rfl))
    rfl
end Go.Ev
