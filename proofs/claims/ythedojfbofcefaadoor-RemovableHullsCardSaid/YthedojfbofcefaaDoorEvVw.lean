/- Slices as lists. -/
import Derived.Test.YthedojfbofcefaaDoorEvRule
namespace Go.Ev
open Go
variable {s s' : HS} {size : Nat} {v : Value} {xs : List (List Value)}

/-- v is a slice in memory that holds the elements xs, of size cells each. -/
def Sl (s : HS) (size : Nat) (v : Value) (xs : List (List Value)) : Prop :=
  (v = .slice none 0 0 ∧ xs = []) ∨
  ∃ id off cap wr e cs, v = .slice (some ⟨id, off, none⟩) xs.length cap ∧ s.hp.get id = some (.cells wr e cs) ∧ id < s.nx ∧ ∀ i x, xs[i]? = some x → x.length = size ∧ cutL cs (off + i * size) size = some x

theorem Sl.shape (h : Sl s size v xs) : ∃ b c, v = .slice b xs.length c := by
  rcases h with ⟨rfl, rfl⟩ | ⟨id, off, cap, wr, e, cs, rfl, _⟩
  · exact ⟨_, _, rfl⟩
  · exact ⟨_, _, rfl⟩

theorem Sl.at {b : Option Addr} {n c i : Nat} {x : List Value} (h : Sl s size (.slice b n c) xs) (hi : xs[i]? = some x) :
    ∃ id off wr e cs, b = some ⟨id, off, none⟩ ∧ s.hp.get id = some (.cells wr e cs) ∧ id < s.nx ∧ cutL cs (off + i * size) size = some x ∧ x.length = size := by
  rcases h with ⟨h1, rfl⟩ | ⟨id, off, cap, wr, e, cs, h1, h2, h3, h4⟩
  · simp at hi
  · cases h1
    obtain ⟨h5, h6⟩ := h4 i x hi
    exact ⟨id, off, wr, e, cs, rfl, h2, h3, h6, h5⟩

theorem Sl.keep (h : Sl s size v xs) (a : Ab s.nx s s') : Sl s' size v xs := by
  rcases h with ⟨rfl, rfl⟩ | ⟨id, off, cap, wr, e, cs, rfl, h2, h3, h4⟩
  · exact Or.inl ⟨rfl, rfl⟩
  · exact Or.inr ⟨id, off, cap, wr, e, cs, rfl, by rw [a.get (Nat.le_refl _) h3]; exact h2, Nat.lt_of_lt_of_le h3 a.nx, h4⟩

theorem cutL_flat {xs : List (List Value)} {pre post : List Value} (hs : ∀ x ∈ xs, x.length = size) : ∀ {i : Nat} {x : List Value}, xs[i]? = some x → cutL (pre ++ (xs.flatten ++ post)) (pre.length + i * size) size = some x := by
  induction xs generalizing pre with
  | nil => intro i x h; simp at h
  | cons y ys ih =>
    intro i x h
    cases i with
    | zero =>
      simp only [List.getElem?_cons_zero, Option.some.injEq] at h; subst h
      have := hs y (by simp)
      unfold cutL
      rw [if_pos (by simp; omega)]
      simp only [Nat.zero_mul, Nat.add_zero, List.flatten_cons, List.append_assoc, List.drop_left, Option.some.injEq]
      rw [← this, List.take_left]
    | succ i =>
      simp only [List.getElem?_cons_succ] at h
      have hy := hs y (by simp)
      have := ih (pre := pre ++ y) (fun z hz => hs z (by simp [hz])) h
      simp only [List.length_append, List.append_assoc, hy] at this
      rw [Nat.succ_mul, Nat.add_comm (i * size) size, ← Nat.add_assoc]
      simpa using this

/-- A block that holds just these elements, and more behind them. -/
theorem Sl.block {id n cap : Nat} {wr : Bool} {e : TypeId} {cs post : List Value} (h : s.hp.get id = some (.cells wr e cs)) (hc : cs = xs.flatten ++ post) (hid : id < s.nx) (hn : n = xs.length) (hs : ∀ x ∈ xs, x.length = size) :
    Sl s size (.slice (some ⟨id, 0, none⟩) n cap) xs := by
  subst hn hc
  refine Or.inr ⟨id, 0, cap, wr, e, _, rfl, h, hid, fun i x hx => ⟨hs x (List.mem_of_getElem? hx), ?_⟩⟩
  have := cutL_flat (pre := []) (post := post) hs hx
  simpa using this

theorem Sl.map {α : Type} {f : α → List Value} {l : List α} (hf : ∀ a, (f a).length = size) : ∀ x ∈ l.map f, x.length = size := by
  intro x hx; obtain ⟨a, _, rfl⟩ := List.mem_map.1 hx; exact hf a
end Go.Ev
