/- A region that draws its order, III: whatever order is drawn. -/
import Derived.Test.YthedojfbofcefaaDoorEvDraw2
namespace Go.Ev
open Go
variable {P : Program} {R : Rec} {φ : Inj} {sz lk B : Nat} {ro : Option Nat}

theorem FrR.congr {f g : Fr} {t : Array Value} (h : ∀ x, f.get x = g.get x) (F : FrR φ sz g t) : FrR φ sz f t := ⟨F.1, fun x v e => F.2 x v (by rw [← h]; exact e)⟩

theorem bet_ext {ops : Array Oper} {E E' : Nat → Bool} : ∀ n, (∀ k, k < n → (E k && lbar ops k) = (E' k && lbar ops k)) → bet ops E n = bet ops E' n := by
  intro n
  induction n with
  | zero => intro _; rfl
  | succ n ih =>
    intro h
    simp only [bet]
    rw [h n (Nat.lt_succ_self _), ih (fun k hk => h k (by omega))]

theorem bet_top {ops : Array Oper} {E : Nat → Bool} {c : Nat} : ∀ n, c < n → (E c && lbar ops c) = true → (∀ k, c < k → k < n → (E k && lbar ops k) = false) → bet ops E n = c + 1 := by
  intro n
  induction n with
  | zero => intro h; omega
  | succ n ih =>
    intro h h1 h2
    simp only [bet]
    by_cases hc : c = n
    · subst hc; rw [h1]; rfl
    · rw [h2 n (by omega) (Nat.lt_succ_self _)]
      exact ih (by omega) h1 (fun k a b => h2 k a (by omega))

def NX (S : Nat → HS) (k : Nat) : Nat := (S k).nx
/-- The heap behind the operations of E. -/
def hS (ops : Array Oper) (S : Nat → HS) (E : Nat → Bool) (id : Nat) : Option AObj :=
  if id < (S (bet ops E ops.size)).nx then (S (bet ops E ops.size)).hp.get id
  else if id < (S ops.size).nx ∧ E (own (NX S) id ops.size) = true then (S (own (NX S) id ops.size + 1)).hp.get id else none

def Dn (ops : Array Oper) (E : Nat → Bool) : Prop := ∀ i j, i < ops.size → E i = true → bits ops i j = true → E j = true
def E1 (E : Nat → Bool) (i : Nat) : Nat → Bool := fun j => E j || decide (j = i)

section
variable {ops : Array Oper} {F : Nat → Fr} {S : Nat → HS} {M : Nat → List (Nat × Nat × Nat)} {V : Nat → Value} {E : Nat → Bool} {i : Nat}

theorem DC.ownK (d : DC P R lk sz ops F S M V) {id k : Nat} (hk : k < ops.size) (h1 : (S k).nx ≤ id) (h2 : id < (S (k + 1)).nx) : own (NX S) id ops.size = k :=
  own_uniq (N := NX S) (fun _ _ a b => d.mono a b) hk h1 h2
theorem DC.ownS (_d : DC P R lk sz ops F S M V) {id : Nat} (h1 : (S 0).nx ≤ id) (h2 : id < (S ops.size).nx) :
    own (NX S) id ops.size < ops.size ∧ (S (own (NX S) id ops.size)).nx ≤ id ∧ id < (S (own (NX S) id ops.size + 1)).nx := own_spec (N := NX S) _ h1 h2
theorem DC.ownL (d : DC P R lk sz ops F S M V) {id k : Nat} (hk : k < ops.size) (h1 : (S k).nx ≤ id) (h2 : id < (S (k + 1)).nx) : loudK ops k = true := by
  cases hl : loudK ops k with
  | true => rfl
  | false => have := (d.quiet hk hl).1; omega

theorem DC.loudLe (d : DC P R lk sz ops F S M V) (hE : Dn ops E) (hi : i < ops.size) (hl : loudK ops i = true) (hi' : E i = false) : bet ops E ops.size ≤ i := by
  obtain ⟨h1, h2, h3⟩ := bet_spec ops E ops.size
  rcases h2 with h2 | ⟨h2, h4⟩
  · omega
  · rcases Nat.lt_or_ge i (bet ops E ops.size) with hlt | hge
    · exfalso
      have hb : bet ops E ops.size - 1 < ops.size := by omega
      have hbar : barK ops (bet ops E ops.size - 1) = true := by unfold lbar at h4; simp only [Bool.and_eq_true] at h4; exact h4.2
      rcases bar_spec hbar hl hi with h5 | h5 | h5
      · rw [← h5, hi'] at h2; cases h2
      · have := hE _ _ hb h2 h5; rw [hi'] at this; cases this
      · have := d.bit_lt _ _ hi h5; omega
    · exact hge

theorem DC.noBar (d : DC P R lk sz ops F S M V) (hi : i < ops.size) (hl : loudK ops i = true) (hrd : ∀ j, bits ops i j = true → E j = true) {k : Nat} (hk : bet ops E ops.size ≤ k) (hki : k < i) : lbar ops k = false := by
  obtain ⟨h1, h2, h3⟩ := bet_spec ops E ops.size
  cases hb : lbar ops k with
  | false => rfl
  | true =>
    exfalso
    have hbar : barK ops k = true := by unfold lbar at hb; simp only [Bool.and_eq_true] at hb; exact hb.2
    have h4 := h3 k hk (by omega)
    rw [hb, Bool.and_true] at h4
    rcases bar_spec hbar hl hi with h5 | h5 | h5
    · omega
    · have := d.bit_lt _ _ (by omega) h5; omega
    · have := hrd k h5; rw [h4] at this; cases this

/-- What a loud operation sees lies in the heap behind E. -/
theorem DC.sees (d : DC P R lk sz ops F S M V) (hE : Dn ops E) (hi : i < ops.size) (hl : loudK ops i = true) (hi' : E i = false) (hrd : ∀ j, bits ops i j = true → E j = true) {id : Nat} {o : AObj}
    (h : (hid (S i) (badOf (M i) (rowK ops i))).hp.get id = some o) : id < (S i).nx ∧ hS ops S E id = some o := by
  have hβ := d.loudLe hE hi hl hi'
  have nb : ∀ k, bet ops E ops.size ≤ k → k < i → lbar ops k = false := fun k a b => d.noBar hi hl hrd a b
  rw [hid_get] at h
  split at h
  · cases h
  · rename_i hbad
    have hlt : id < (S i).nx := d.bnd (k := i) (by omega) id (by rw [h]; simp)
    refine ⟨hlt, ?_⟩
    unfold hS
    by_cases h1 : id < (S (bet ops E ops.size)).nx
    · rw [if_pos h1, ← d.lockR hβ (by omega) nb h1]; exact h
    · rw [if_neg h1]
      have h0 : (S 0).nx ≤ id := by have := d.mono (j := 0) (k := bet ops E ops.size) (Nat.zero_le _) (by omega); omega
      have hn : id < (S ops.size).nx := by have := d.mono (j := i) (k := ops.size) (by omega) (Nat.le_refl _); omega
      obtain ⟨o1, o2, o3⟩ := d.ownS h0 hn
      generalize own (NX S) id ops.size = k at *
      have hki : k < i := by
        rcases Nat.lt_or_ge k i with a | a
        · exact a
        · have := d.mono (j := i) (k := k) a (by omega); omega
      have hkβ : bet ops E ops.size ≤ k := by
        rcases Nat.lt_or_ge k (bet ops E ops.size) with a | a
        · have := d.mono (j := k + 1) (k := bet ops E ops.size) a (by omega); omega
        · exact a
      have hk : bits ops i k = true := by
        cases hb : bits ops i k with
        | true => rfl
        | false => exact absurd (d.inBadNew hi (raw_loud hl) ⟨k, hki, d.ownL o1 o2 o3, hb, o2, o3⟩) hbad
      rw [if_pos ⟨hn, hrd k hk⟩, ← d.lockR (k := k + 1) (m := i) hki (by omega) (fun j a b => nb j (by omega) b) o3]
      exact h

theorem hS_lt (d : DC P R lk sz ops F S M V) {id : Nat} (h : hS ops S E id ≠ none) : id < (S ops.size).nx := by
  unfold hS at h
  have hb := (bet_spec ops E ops.size).1
  split at h
  · rename_i h1; have := d.mono hb (Nat.le_refl _); omega
  · split at h
    · rename_i h1; exact h1.1
    · simp at h

/-- One more that writes nothing. -/
theorem hS_side (d : DC P R lk sz ops F S M V) (hE : Dn ops E) (hi : i < ops.size) (hi' : E i = false) (hb : lbar ops i = false) (id : Nat) :
    hS ops S (E1 E i) id = if (S i).nx ≤ id ∧ id < (S (i + 1)).nx then (S (i + 1)).hp.get id else hS ops S E id := by
  have he : bet ops (E1 E i) ops.size = bet ops E ops.size := bet_ext _ fun k hk => by
    unfold E1
    by_cases hki : k = i
    · subst hki; rw [hb]; simp
    · simp [hki]
  have hb1 := (bet_spec ops E ops.size).1
  have h0β := d.mono (j := 0) (k := bet ops E ops.size) (Nat.zero_le _) hb1
  unfold hS
  rw [he]
  by_cases hc : (S i).nx ≤ id ∧ id < (S (i + 1)).nx
  · rw [if_pos hc]
    have hβ := d.loudLe hE hi (d.ownL hi hc.1 hc.2) hi'
    have := d.mono hβ (by omega)
    rw [if_neg (by omega), d.ownK hi hc.1 hc.2]
    have := d.mono (j := i + 1) (k := ops.size) (by omega) (Nat.le_refl _)
    rw [if_pos ⟨by omega, by simp [E1]⟩]
  · rw [if_neg hc]
    split
    · rfl
    · rename_i h1
      by_cases hn : id < (S ops.size).nx
      · obtain ⟨o1, o2, o3⟩ := d.ownS (id := id) (by omega) hn
        have hne : own (NX S) id ops.size ≠ i := fun e => by rw [e] at o2 o3; exact hc ⟨o2, o3⟩
        have : E1 E i (own (NX S) id ops.size) = E (own (NX S) id ops.size) := by simp [E1, hne]
        rw [this]
      · rw [if_neg (fun h => hn h.1), if_neg (fun h => hn h.1)]

/-- What is loud and carried out stands ahead of a barrier in the text. -/
theorem DC.barE (d : DC P R lk sz ops F S M V) (hE : Dn ops E) (hi : i < ops.size) (hb : lbar ops i = true) (hi' : E i = false) (hrd : ∀ j, bits ops i j = true → E j = true) {k : Nat} (hk : k < ops.size)
    (hl : loudK ops k = true) (hne : k ≠ i) : (E k = true ↔ k < i) ∧ (k < i → bits ops i k = true) := by
  have hbar : barK ops i = true := by unfold lbar at hb; simp only [Bool.and_eq_true] at hb; exact hb.2
  rcases bar_spec hbar hl hk with h5 | h5 | h5
  · exact absurd h5 hne
  · have := d.bit_lt _ _ hi h5
    exact ⟨⟨fun _ => this, fun _ => hrd k h5⟩, fun _ => h5⟩
  · have h6 := d.bit_lt _ _ hk h5
    refine ⟨⟨fun h => ?_, fun h => by omega⟩, fun h => by omega⟩
    have := hE _ _ hk h h5; rw [hi'] at this; cases this

theorem lbar_loud (hb : lbar ops i = true) : loudK ops i = true := by unfold lbar at hb; simp only [Bool.and_eq_true] at hb; exact hb.1

theorem hS_bar (d : DC P R lk sz ops F S M V) (hE : Dn ops E) (hi : i < ops.size) (hb : lbar ops i = true) (hi' : E i = false) (hrd : ∀ j, bits ops i j = true → E j = true) (id : Nat) :
    (S i).hp.get id = hS ops S E id ∧ (S (i + 1)).hp.get id = hS ops S (E1 E i) id := by
  have hl := lbar_loud hb
  have hβ0 := d.loudLe hE hi hl hi'
  have nb0 : ∀ k, bet ops E ops.size ≤ k → k < i → lbar ops k = false := fun k a b => d.noBar hi hl hrd a b
  have badOld : ∀ id, Go.Ev.inBad (badOf (M i) (rowK ops i)) id = true → id < (S 0).nx := fun id h => by
    rcases d.inBad hi h with ⟨k, h1, h2, h3, h4, h5⟩ | h
    · have := (d.barE hE hi hb hi' hrd (by omega) h2 (by omega)).2 h1
      rw [h3] at this; cases this
    · exact h.2
  refine ⟨?_, ?_⟩
  · cases hg : hS ops S E id with
    | some o =>
      have hlt := hS_lt d (E := E) (id := id) (by rw [hg]; simp)
      have hβ := d.loudLe hE hi hl hi'
      have nb : ∀ k, bet ops E ops.size ≤ k → k < i → lbar ops k = false := fun k a b => d.noBar hi hl hrd a b
      unfold hS at hg
      split at hg
      · rename_i h1; rw [d.lockR hβ (by omega) nb h1]; exact hg
      · rename_i h1
        split at hg
        · rename_i h2
          have h0 : (S 0).nx ≤ id := by have := d.mono (j := 0) (k := bet ops E ops.size) (Nat.zero_le _) (by omega); omega
          obtain ⟨o1, o2, o3⟩ := d.ownS h0 hlt
          generalize own (NX S) id ops.size = k at *
          have hki : k < i := ((d.barE hE hi hb hi' hrd o1 (d.ownL o1 o2 o3) (fun e => by rw [e, hi'] at h2; cases h2.2)).1).1 h2.2
          have hkβ : bet ops E ops.size ≤ k := by
            rcases Nat.lt_or_ge k (bet ops E ops.size) with a | a
            · have := d.mono (j := k + 1) (k := bet ops E ops.size) a (by omega); omega
            · exact a
          rw [d.lockR (k := k + 1) (m := i) hki (by omega) (fun j a b => nb j (by omega) b) o3]
          exact hg
        · cases hg
    | none =>
      cases hs : (S i).hp.get id with
      | none => rfl
      | some o =>
        by_cases hbad : Go.Ev.inBad (badOf (M i) (rowK ops i)) id = true
        · have h0 := badOld id hbad
          have hm := d.mono (j := 0) (k := bet ops E ops.size) (Nat.zero_le _) (by omega)
          have : hS ops S E id = some o := by
            unfold hS
            rw [if_pos (by omega), ← d.lockR hβ0 (by omega) nb0 (by omega)]; exact hs
          rw [hg] at this; cases this
        · have := (d.sees hE hi hl hi' hrd (id := id) (o := o) (by rw [hid_get, if_neg hbad]; exact hs)).2
          rw [hg] at this; cases this
  · have he : bet ops (E1 E i) ops.size = i + 1 := by
      refine bet_top _ hi (by simp [E1, hb]) fun k h1 h2 => ?_
      cases hk : lbar ops k with
      | false => simp
      | true =>
        have := (d.barE hE hi hb hi' hrd h2 (lbar_loud hk) (by omega)).1
        cases hEk : E k with
        | true => have := this.1 hEk; omega
        | false => simp [E1, hEk, show k ≠ i by omega]
    unfold hS
    rw [he]
    split
    · rfl
    · rename_i h1
      have hnone : (S (i + 1)).hp.get id = none := by
        cases hs : (S (i + 1)).hp.get id with
        | none => rfl
        | some o => exact absurd (d.bnd (k := i + 1) (by omega) id (by rw [hs]; simp)) h1
      rw [hnone]
      split
      · rename_i h2
        exfalso
        have h0 : (S 0).nx ≤ id := by have := d.mono (j := 0) (k := i + 1) (Nat.zero_le _) (by omega); omega
        obtain ⟨o1, o2, o3⟩ := d.ownS h0 h2.1
        generalize own (NX S) id ops.size = k at *
        have hki : i < k := by
          rcases Nat.lt_or_ge i k with a | a
          · exact a
          · have := d.mono (j := k + 1) (k := i + 1) (by omega) (by omega); omega
        have hEk : E k = true := by have := h2.2; simp [E1, show k ≠ i by omega] at this; exact this
        have := ((d.barE hE hi hb hi' hrd o1 (d.ownL o1 o2 o3) (by omega)).1).1 hEk
        omega
      · rfl

/-- What a quiet load reads lies in the heap behind E. -/
theorem hS_quiet (d : DC P R lk sz ops F S M V) (hE : Dn ops E) (hi : i < ops.size) (hq : quietK ops i = true) (hi' : E i = false) (hrd : ∀ j, bits ops i j = true → E j = true) {b : Nat}
    (hl : loadBlk P.globals.size (F i) (ops[i]'hi) = some b) (hb0 : b < (S 0).nx) : hS ops S E b = (S i).hp.get b := by
  obtain ⟨h1, h2, h3⟩ := bet_spec ops E ops.size
  have h0k : ∀ k, k ≤ ops.size → b < (S k).nx := fun k hk => Nat.lt_of_lt_of_le hb0 (d.mono (Nat.zero_le _) hk)
  unfold hS
  rw [if_pos (h0k _ h1)]
  obtain ⟨_, ql, _, qb⟩ := quiet_spec hq
  rcases Nat.le_total (bet ops E ops.size) i with hle | hle
  · -- all that writes and stands ahead has been carried out
    have key : ∀ k, bet ops E ops.size ≤ k → k ≤ i → (S k).hp.get b = (S (bet ops E ops.size)).hp.get b := by
      intro k
      induction k with
      | zero => intro h _; rw [show bet ops E ops.size = 0 by omega]
      | succ k ih =>
        intro h5 h6
        by_cases hk : bet ops E ops.size = k + 1
        · rw [hk]
        · rw [← ih (by omega) (by omega)]
          cases hlb : lbar ops k with
          | false => exact d.lock (by omega) hlb (h0k k (by omega))
          | true =>
            rcases qb k (by omega) (by omega) with h7 | h7 | h7
            · have := h3 k (by omega) (by omega)
              rw [hrd k h7, hlb] at this; cases this
            · have := lbar_loud hlb
              unfold loudK at this
              rw [Array.getElem?_eq_getElem (by omega)] at this
              simp only [Option.any_some, h7, Bool.false_and] at this
              cases this
            · exact (d.loads (by omega) h7).2 b
    exact (key i hle (Nat.le_refl _)).symm
  · have hEb : bet ops E ops.size ≠ i → E (bet ops E ops.size - 1) = true ∧ lbar ops (bet ops E ops.size - 1) = true := fun hne => by
      rcases h2 with h2 | h2
      · omega
      · exact h2
    have key : ∀ k, i ≤ k → k ≤ bet ops E ops.size → (S k).hp.get b = (S i).hp.get b := by
      intro k
      induction k with
      | zero => intro h _; rw [show i = 0 by omega]
      | succ k ih =>
        intro h5 h6
        by_cases hk : i = k + 1
        · rw [hk]
        · rw [← ih (by omega) (by omega)]
          by_cases hki : i = k
          · subst hki; exact (d.loads hi ql).2 b
          · cases hlb : lbar ops k with
            | false => exact d.lock (by omega) hlb (h0k k (by omega))
            | true =>
              obtain ⟨e1, e2⟩ := hEb (by omega)
              have hbark : barK ops k = true := by unfold lbar at hlb; simp only [Bool.and_eq_true] at hlb; exact hlb.2
              have hbit : bits ops k i = false := by
                cases hbt : bits ops k i with
                | false => rfl
                | true =>
                  exfalso
                  have hEk : E k = true := by
                    by_cases hkl : k = bet ops E ops.size - 1
                    · rw [hkl]; exact e1
                    · have hbar2 : barK ops (bet ops E ops.size - 1) = true := by unfold lbar at e2; simp only [Bool.and_eq_true] at e2; exact e2.2
                      rcases bar_spec hbar2 (lbar_loud hlb) (by omega) with h7 | h7 | h7
                      · exact absurd h7 hkl
                      · exact hE _ _ (by omega) e1 h7
                      · have := d.bit_lt _ _ (by omega) h7; omega
                  have := hE _ _ (by omega) hEk hbt
                  rw [hi'] at this; cases this
              have hbad := d.inBadOld (i := k) (by omega) (raw_loud (lbar_loud hlb)) hbark hq (by omega) hbit (Array.getElem?_eq_getElem hi) hl
              obtain ⟨s1, _, _, r3, _⟩ := d.at (Array.getElem?_eq_getElem (show k < ops.size by omega))
              rw [r3, unh_get, if_pos hbad]
    exact key _ hle (Nat.le_refl _)
end
end Go.Ev
