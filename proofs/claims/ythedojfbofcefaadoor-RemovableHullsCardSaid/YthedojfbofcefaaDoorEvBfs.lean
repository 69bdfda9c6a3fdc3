/- The plain law of graph.reach: a breadth-first search marks what is reached. -/
import Derived.Test.YthedojfbofcefaaDoorEvG5
set_option linter.unusedSimpArgs false
set_option linter.unusedVariables false
namespace Go.Ev
open Go

/-- Edges lead from a to b. -/
inductive Rch (es : List (Int × Int)) : Int → Int → Prop
  | refl (a : Int) : Rch es a a
  | step {a b c : Int} (h : Rch es a b) (e : (b, c) ∈ es) : Rch es a c

theorem Rch.trans {es : List (Int × Int)} {a b c : Int} (h : Rch es a b) (k : Rch es b c) : Rch es a c := by
  induction k with
  | refl => exact h
  | step _ e ih => exact .step ih e

theorem Rch.inside {n : Int} {es : List (Int × Int)} (hg : GoodG n es) {a b : Int} (h : Rch es a b) (ha : 0 ≤ a ∧ a < n) : 0 ≤ b ∧ b < n := by
  induction h with
  | refl => exact ha
  | step _ e _ => exact ⟨(hg.ins _ e).2.2.1, (hg.ins _ e).2.2.2⟩

theorem mem_succL {es : List (Int × Int)} {k y : Int} : y ∈ succL es k ↔ (k, y) ∈ es := by
  unfold succL
  simp only [List.mem_map, List.mem_filter, decide_eq_true_eq]
  constructor
  · rintro ⟨⟨a, b⟩, ⟨h1, h2⟩, h3⟩; subst h2 h3; exact h1
  · intro h; exact ⟨(k, y), ⟨h, rfl⟩, rfl⟩

/-- The node x is marked. -/
def Mk (seen : List Bool) (x : Int) : Prop := 0 ≤ x ∧ seen[x.toNat]? = some true

theorem Mk.set {seen : List Bool} {i : Nat} (hi : i < seen.length) {x : Int} : Mk (seen.set i true) x ↔ Mk seen x ∨ x = (i : Int) := by
  unfold Mk
  rw [List.getElem?_set]
  by_cases h : i = x.toNat
  · rw [if_pos h, if_pos hi]
    constructor
    · rintro ⟨h1, _⟩; exact Or.inr (by omega)
    · rintro (h1 | h1)
      · exact ⟨h1.1, rfl⟩
      · exact ⟨by omega, rfl⟩
  · rw [if_neg h]
    constructor
    · exact Or.inl
    · rintro (h1 | h1)
      · exact h1
      · omega

theorem count_set : ∀ {seen : List Bool} {i : Nat}, seen[i]? = some false → (seen.set i true).count false + 1 = seen.count false := by
  intro seen
  induction seen with
  | nil => intro i h; simp at h
  | cons b l ih =>
    intro i h
    cases i with
    | zero =>
      simp only [List.getElem?_cons_zero, Option.some.injEq] at h; subst h
      simp
    | succ i =>
      simp only [List.getElem?_cons_succ] at h
      have := ih h
      rw [List.set_cons_succ, List.count_cons, List.count_cons]
      omega

/-- What holds while a search goes on: K are the nodes in hand. -/
structure Bfs (n : Int) (es : List (Int × Int)) (from_ : List Int) (queue : List Int) (seen : List Bool) (K : Int → Prop) : Prop where
  len : seen.length = n.toNat
  que : ∀ x ∈ queue, 0 ≤ x ∧ x < n ∧ Mk seen x
  frm : ∀ x ∈ from_, Mk seen x
  rch : ∀ x, Mk seen x → ∃ f ∈ from_, Rch es f x
  clo : ∀ x, Mk seen x → x ∈ queue ∨ K x ∨ ∀ y ∈ succL es x, Mk seen y

theorem Bfs.pop {n : Int} {es : List (Int × Int)} {from_ queue : List Int} {seen : List Bool} {k : Int} (h : Bfs n es from_ (k :: queue) seen fun _ => False) : Bfs n es from_ queue seen fun x => x = k where
  len := h.len
  que := fun x hx => h.que x (List.mem_cons_of_mem _ hx)
  frm := h.frm
  rch := h.rch
  clo := fun x hx => by
    rcases h.clo x hx with h1 | h1 | h1
    · rcases List.mem_cons.1 h1 with h2 | h2
      · exact Or.inr (Or.inl h2)
      · exact Or.inl h2
    · cases h1
    · exact Or.inr (Or.inr h1)

theorem Bfs.mark {n : Int} {es : List (Int × Int)} {from_ queue : List Int} {seen : List Bool} {k : Int} {i : Nat} (h : Bfs n es from_ queue seen fun x => x = k) (hk : Mk seen k) (hi : i < seen.length) (he : (k, (i : Int)) ∈ es) :
    Bfs n es from_ (queue ++ [(i : Int)]) (seen.set i true) fun x => x = k where
  len := by rw [List.length_set]; exact h.len
  que := fun x hx => by
    rcases List.mem_append.1 hx with h1 | h1
    · obtain ⟨a, b, c⟩ := h.que x h1; exact ⟨a, b, (Mk.set hi).2 (Or.inl c)⟩
    · obtain rfl := List.mem_singleton.1 h1
      have := h.len
      exact ⟨by omega, by omega, (Mk.set hi).2 (Or.inr rfl)⟩
  frm := fun x hx => (Mk.set hi).2 (Or.inl (h.frm x hx))
  rch := fun x hx => by
    rcases (Mk.set hi).1 hx with h1 | h1
    · exact h.rch x h1
    · obtain ⟨f, h2, h3⟩ := h.rch k hk
      exact ⟨f, h2, by rw [h1]; exact .step h3 he⟩
  clo := fun x hx => by
    rcases (Mk.set hi).1 hx with h1 | h1
    · rcases h.clo x h1 with h2 | h2 | h2
      · exact Or.inl (List.mem_append_left _ h2)
      · exact Or.inr (Or.inl h2)
      · exact Or.inr (Or.inr fun y hy => (Mk.set hi).2 (Or.inl (h2 y hy)))
    · exact Or.inl (List.mem_append_right _ (by rw [h1]; exact List.mem_singleton.2 rfl))

theorem Bfs.done1 {n : Int} {es : List (Int × Int)} {from_ queue : List Int} {seen : List Bool} {k : Int} (h : Bfs n es from_ queue seen fun x => x = k) (hk : ∀ y ∈ succL es k, Mk seen y) : Bfs n es from_ queue seen fun _ => False where
  len := h.len
  que := h.que
  frm := h.frm
  rch := h.rch
  clo := fun x hx => by
    rcases h.clo x hx with h1 | h1 | h1
    · exact Or.inl h1
    · exact Or.inr (Or.inr (by rw [h1]; exact hk))
    · exact Or.inr (Or.inr h1)

theorem Bfs.all {n : Int} {es : List (Int × Int)} {from_ : List Int} {seen : List Bool} (h : Bfs n es from_ [] seen fun _ => False) (x : Int) : Mk seen x ↔ ∃ f ∈ from_, Rch es f x := by
  refine ⟨h.rch x, ?_⟩
  rintro ⟨f, hf, hr⟩
  induction hr with
  | refl => exact h.frm _ hf
  | step _ e ih =>
    rcases h.clo _ ih with h1 | h1 | h1
    · cases h1
    · cases h1
    · exact h1 _ (mem_succL.2 e)
end Go.Ev
