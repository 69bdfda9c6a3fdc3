/- Plain laws: the graph of a net is one; the hull of the model is what is reached. -/
import Derived.Test.YthedojfbofcefaaDoorEvG10
set_option linter.unusedSimpArgs false
set_option linter.unusedVariables false
namespace Go.Ev
open Go

/-! ### The graph of a net -/
theorem cmpI_lt {a b : Int} (h : a < b) : cmpI a b = -1 := by unfold cmpI; rw [if_pos h]
theorem cmpI_eq (a : Int) : cmpI a a = 0 := by unfold cmpI; rw [if_neg (by omega), if_neg (by omega)]

theorem ordE_edge {k i j : Nat} (hij : i < j) : ordE (edgeN k i) (edgeN k j) < 0 := by
  unfold ordE edgeN
  simp only
  have hle : i / k ≤ j / k := Nat.div_le_div_right (by omega)
  rcases Nat.lt_or_ge (i / k) (j / k) with h | h
  · rw [cmpI_lt (by exact_mod_cast h), orI, if_pos (by decide)]; decide
  · have he : i / k = j / k := by omega
    have hm : i % k < j % k := by
      have h1 := Nat.div_add_mod i k
      have h2 := Nat.div_add_mod j k
      rw [he] at h1
      omega
    rw [he, cmpI_eq, cmpI_lt (by exact_mod_cast hm)]
    decide

theorem incr_pair : ∀ {l : List (Int × Int)}, l.Pairwise (fun x y => ordE x y < 0) → incr l = true := by
  intro l
  induction l with
  | nil => intro _; rfl
  | cons x l ih =>
    intro h
    cases l with
    | nil => rfl
    | cons y l =>
      rw [incr, ih (List.Pairwise.tail h)]
      have := (List.pairwise_cons.1 h).1 y List.mem_cons_self
      simp [this]

theorem netE_good {k : Nat} (bs : List Nat) (hk : k < 8) : checkR k (netE k bs) = 0 := by
  unfold checkR
  have hlen := graphL_len k bs (k * k)
  have hmem : ∀ e ∈ netE k bs, outside (k : Int) e = false := fun e he => by
    unfold netE graphL at he
    simp only [List.mem_map, List.mem_filter, List.mem_range] at he
    obtain ⟨i, ⟨h1, _⟩, rfl⟩ := he
    have hk0 : 0 < k := by rcases Nat.eq_zero_or_pos k with h | h; · subst h; omega
                           · exact h
    have h2 : i / k < k := by rw [Nat.div_lt_iff_lt_mul hk0]; exact h1
    have h3 : i % k < k := Nat.mod_lt _ hk0
    unfold outside beyondB edgeN
    simp only [Bool.or_eq_false_iff, decide_eq_false_iff_not]
    refine ⟨⟨?_, ?_⟩, ?_, ?_⟩ <;> generalize i / k = a at * <;> generalize i % k = b at * <;> omega
  have hinc : incr (netE k bs) = true := by
    refine incr_pair ?_
    unfold netE graphL
    rw [List.pairwise_map]
    refine List.Pairwise.filter _ ?_
    exact List.Pairwise.imp (fun {a b} h => ordE_edge h) List.pairwise_lt_range
  rw [if_neg (by omega), if_neg, if_neg, hinc, if_pos rfl]
  · intro h
    obtain ⟨e, h1, h2⟩ := List.any_eq_true.1 h
    rw [hmem e h1] at h2; cases h2
  · rw [← Int.natCast_mul]
    unfold netE
    omega

/-! ### The hull -/
theorem hullStep_mono {S : Nat} {e : Int × Int} {j : Nat} (h : S.testBit j = true) : (hullStep S e).testBit j = true := by
  unfold hullStep
  split
  · rw [setBit, h]; rfl
  · exact h
theorem foldl_mono {es : List (Int × Int)} : ∀ {S : Nat} {j : Nat}, S.testBit j = true → (es.foldl hullStep S).testBit j = true := by
  induction es with
  | nil => intro S j h; exact h
  | cons e es ih => intro S j h; exact ih (hullStep_mono h)
theorem foldl_edge {es : List (Int × Int)} : ∀ {S : Nat} {e : Int × Int}, e ∈ es → S.testBit e.1.toNat = true → (es.foldl hullStep S).testBit e.2.toNat = true := by
  induction es with
  | nil => intro S e h; cases h
  | cons x es ih =>
    intro S e h hS
    rcases List.mem_cons.1 h with rfl | h
    · rw [List.foldl_cons]
      refine foldl_mono ?_
      unfold hullStep
      rw [if_pos hS, setBit]; simp
    · exact ih h (hullStep_mono hS)

theorem hullN_sound {n : Int} {es : List (Int × Int)} {a : Nat} (hg : GoodG n es) : ∀ (k j : Nat), (hullN es k a).testBit j = true → ∃ i : Nat, a.testBit i = true ∧ Rch es i j := by
  have step : ∀ (fs : List (Int × Int)), (∀ e ∈ fs, e ∈ es) → ∀ S : Nat, (∀ j : Nat, S.testBit j = true → ∃ i : Nat, a.testBit i = true ∧ Rch es i j) → ∀ j : Nat, (fs.foldl hullStep S).testBit j = true → ∃ i : Nat, a.testBit i = true ∧ Rch es i j := by
    intro fs
    induction fs with
    | nil => intro _ S hS j h; exact hS j h
    | cons e fs ih =>
      intro hm S hS j h
      refine ih (fun x hx => hm x (List.mem_cons_of_mem _ hx)) (hullStep S e) (fun j hj => ?_) j h
      unfold hullStep at hj
      split at hj
      · rename_i hb
        rw [setBit, Bool.or_eq_true] at hj
        rcases hj with hj | hj
        · exact hS j hj
        · have hj' : j = e.2.toNat := by simpa using hj
          obtain ⟨i, h1, h2⟩ := hS _ hb
          have he := hm e List.mem_cons_self
          obtain ⟨q1, q2, q3, q4⟩ := hg.ins e he
          refine ⟨i, h1, .step h2 ?_⟩
          rw [hj', Int.toNat_of_nonneg q1, Int.toNat_of_nonneg q3]; exact he
      · exact hS j hj
  intro k
  induction k with
  | zero => intro j h; exact ⟨j, h, .refl _⟩
  | succ k ih => exact step es (fun _ h => h) _ ih

def cardN (S : Nat) : Nat → Nat
  | 0 => 0
  | n + 1 => cardN S n + if S.testBit n then 1 else 0
theorem cardN_le (S n : Nat) : cardN S n ≤ n := by
  induction n with
  | zero => exact Nat.le_refl _
  | succ n ih => rw [cardN]; split <;> omega
theorem cardN_mono {S T : Nat} (h : ∀ j, S.testBit j = true → T.testBit j = true) : ∀ n, cardN S n ≤ cardN T n ∧ ((∃ j, j < n ∧ T.testBit j = true ∧ S.testBit j = false) → cardN S n < cardN T n) := by
  intro n
  induction n with
  | zero => exact ⟨Nat.le_refl _, fun ⟨j, h, _⟩ => by omega⟩
  | succ n ih =>
    obtain ⟨i1, i2⟩ := ih
    simp only [cardN]
    refine ⟨?_, fun ⟨j, hj, h1, h2⟩ => ?_⟩
    · cases hs : S.testBit n with
      | true => rw [h n hs]; simp; exact i1
      | false => simp; split <;> omega
    · by_cases hjn : j = n
      · subst hjn
        rw [h1, h2]; simp; omega
      · have := i2 ⟨j, by omega, h1, h2⟩
        cases hs : S.testBit n with
        | true => rw [h n hs]; simp; exact this
        | false => simp; split <;> omega

theorem lt_bit {S n j : Nat} (h : S < 2 ^ n) (hj : n ≤ j) : S.testBit j = false := Nat.testBit_lt_two_pow (Nat.lt_of_lt_of_le h (Nat.pow_le_pow_right (by decide) hj))

/-- As long as rounds change something, they add something. -/
theorem hullN_grow {n : Nat} {es : List (Int × Int)} {a : Nat} (ha : a < 2 ^ n) (he : ∀ e ∈ es, e.2.toNat < n) : ∀ k, hullN es (k + 1) a = hullN es k a ∨ k + 1 ≤ cardN (hullN es (k + 1) a) n := by
  intro k
  induction k with
  | zero =>
    by_cases h : hullN es 1 a = hullN es 0 a
    · exact Or.inl h
    · right
      have hm : ∀ j, (hullN es 0 a).testBit j = true → (hullN es 1 a).testBit j = true := fun j hj => foldl_mono hj
      have : ∃ j, j < n ∧ (hullN es 1 a).testBit j = true ∧ (hullN es 0 a).testBit j = false := by
        refine Classical.byContradiction fun hno => h (Nat.eq_of_testBit_eq fun j => ?_)
        cases h1 : (hullN es 0 a).testBit j with
        | true => exact hm j h1
        | false =>
          cases h2 : (hullN es 1 a).testBit j with
          | false => rfl
          | true =>
            exfalso; refine hno ⟨j, ?_, h2, h1⟩
            rcases Nat.lt_or_ge j n with h3 | h3
            · exact h3
            · rw [lt_bit (hullN_lt ha he 1) h3] at h2; cases h2
      have := (cardN_mono hm n).2 this
      show 1 ≤ cardN (hullN es 1 a) n
      omega
  | succ k ih =>
    by_cases h : hullN es (k + 2) a = hullN es (k + 1) a
    · exact Or.inl h
    · right
      have hm : ∀ j, (hullN es (k + 1) a).testBit j = true → (hullN es (k + 2) a).testBit j = true := fun j hj => foldl_mono hj
      have hex : ∃ j, j < n ∧ (hullN es (k + 2) a).testBit j = true ∧ (hullN es (k + 1) a).testBit j = false := by
        refine Classical.byContradiction fun hno => h (Nat.eq_of_testBit_eq fun j => ?_)
        cases h1 : (hullN es (k + 1) a).testBit j with
        | true => exact hm j h1
        | false =>
          cases h2 : (hullN es (k + 2) a).testBit j with
          | false => rfl
          | true =>
            exfalso; refine hno ⟨j, ?_, h2, h1⟩
            rcases Nat.lt_or_ge j n with h3 | h3
            · exact h3
            · rw [lt_bit (hullN_lt ha he (k + 2)) h3] at h2; cases h2
      have := (cardN_mono hm n).2 hex
      rcases ih with ih | ih
      · exfalso; apply h
        show hullRound es (hullN es (k + 1) a) = hullN es (k + 1) a
        rw [ih]; exact ih
      · show k + 1 + 1 ≤ cardN (hullN es (k + 2) a) n
        omega

theorem hullN_fix {n : Nat} {es : List (Int × Int)} {a : Nat} (ha : a < 2 ^ n) (he : ∀ e ∈ es, e.2.toNat < n) : hullRound es (hullN es n a) = hullN es n a := by
  rcases hullN_grow ha he n with h | h
  · exact h
  · have := cardN_le (hullN es (n + 1) a) n; omega

theorem hullN_base {es : List (Int × Int)} {a j : Nat} (h : a.testBit j = true) : ∀ k, (hullN es k a).testBit j = true := by
  intro k
  induction k with
  | zero => exact h
  | succ k ih => exact foldl_mono ih

theorem hull_bit {n : Nat} {es : List (Int × Int)} {a : Nat} (hg : GoodG n es) (ha : a < 2 ^ n) (j : Nat) : (hullN es n a).testBit j = true ↔ ∃ i : Nat, a.testBit i = true ∧ Rch es i j := by
  refine ⟨hullN_sound hg n j, fun ⟨i, h1, h2⟩ => ?_⟩
  have he : ∀ e ∈ es, e.2.toNat < n := fun e h => by have := hg.ins e h; omega
  have hfix := hullN_fix ha he
  have key : ∀ x y : Int, Rch es x y → 0 ≤ x → (hullN es n a).testBit x.toNat = true → (hullN es n a).testBit y.toNat = true := by
    intro x y h
    induction h with
    | refl => intro _ h; exact h
    | step _ e ih =>
      intro hx hb
      have := foldl_edge e (ih hx hb)
      rw [← hfix]; exact this
  have := key i j h2 (by omega) (by rw [Int.toNat_natCast]; exact hullN_base h1 n)
  rwa [Int.toNat_natCast] at this

/-! ### Lists of nodes -/
theorem listedL_eq : ∀ (l : List Bool) (k : Nat), listedL k l = ((List.range l.length).filter fun i => l[i]?.getD false).map fun i : Nat => ((k + i : Nat) : Int) := by
  intro l
  induction l with
  | nil => intro k; rfl
  | cons b l ih =>
    intro k
    have e : listedL ((k : Int) + 1) l = listedL ((k + 1 : Nat) : Int) l := rfl
    rw [listedL, e, ih (k + 1), List.length_cons, List.range_succ_eq_map, List.filter_cons, List.filter_map]
    have h2 : ((fun i => (b :: l)[i]?.getD false) ∘ Nat.succ) = fun i => l[i]?.getD false := by funext i; simp
    have h3 : ((fun i : Nat => ((k + i : Nat) : Int)) ∘ Nat.succ) = fun i : Nat => ((k + 1 + i : Nat) : Int) := by funext i; simp only [Function.comp]; congr 1; omega
    cases b with
    | true => simp [h2]; intro a _ _; omega
    | false => simp [h2]; intro a _ _; omega

theorem nodesL_ext {a n : Nat} {seen : List Bool} (hl : seen.length = n) (ha : a < 2 ^ n) (hn : n ≤ 62) (h : ∀ i : Nat, Mk seen i ↔ a.testBit i = true) : listedL 0 seen = nodesL a 62 := by
  have h0 : a >>> n = 0 := by rw [Nat.shiftRight_eq_div_pow]; exact Nat.div_eq_of_lt ha
  rw [nodesL_high h0 62 hn, show listedL 0 seen = listedL ((0 : Nat) : Int) seen from rfl, listedL_eq, hl]
  unfold nodesL
  have e1 : (List.range n).filter (fun i => seen[i]?.getD false) = (List.range n).filter fun i => a.testBit i := by
    refine List.filter_congr fun i hi => ?_
    have hi' := List.mem_range.1 hi
    have h2 := h i
    unfold Mk at h2
    rw [Int.toNat_natCast] at h2
    cases hb : a.testBit i with
    | true => rw [(h2.2 hb).2]; rfl
    | false =>
      cases hs : seen[i]? with
      | none => rfl
      | some b =>
        cases b with
        | false => rfl
        | true => have := h2.1 ⟨by omega, hs⟩; rw [hb] at this; cases this
  rw [e1]
  refine List.map_congr_left fun i _ => ?_
  rw [Nat.zero_add]

/-- What Reach lists is the model's hull. -/
theorem reach_hull {n : Nat} {es : List (Int × Int)} {l r : List Int} (hg : GoodG n es) (hn62 : n ≤ 62) (hl : ∀ x ∈ l, 0 ≤ x ∧ x < (n : Int)) (h : ReachedL n es l r) : r = nodesL (hullN es n (bitsN l)) 62 := by
  obtain ⟨seen, h1, h2, rfl⟩ := h
  have hb := bitsN_lt hl
  have hn := hg.hi
  refine nodesL_ext (n := n) (by omega) (hullN_lt hb (fun e he => by have := hg.ins e he; omega) n) hn62 fun i => ?_
  rw [h2, hull_bit hg hb]
  constructor
  · rintro ⟨f, h3, h4⟩
    have := hl f h3
    refine ⟨f.toNat, ?_, ?_⟩
    · rw [bitsN_bit]; exact decide_eq_true ⟨f, h3, rfl⟩
    · rwa [Int.toNat_of_nonneg this.1]
  · rintro ⟨i', h3, h4⟩
    rw [bitsN_bit, decide_eq_true_eq] at h3
    obtain ⟨f, h5, h6⟩ := h3
    have := hl f h5
    refine ⟨f, h5, ?_⟩
    rwa [show f = (i' : Int) by omega]
end Go.Ev
