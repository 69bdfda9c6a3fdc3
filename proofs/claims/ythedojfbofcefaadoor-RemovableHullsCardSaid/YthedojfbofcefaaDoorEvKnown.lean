/- The examples of the chapter hold: evaluated by the kernel. -/
import Derived.Test.YthedojfbofcefaaDoorEvTy
set_option linter.unusedSimpArgs false
set_option linter.unusedVariables false
namespace Go.Ev
open Go Go.Proofs
set_option maxRecDepth 100000

/-- The table of math/bits. -/
def tabL : List Int := [0, 1, 56, 2, 57, 49, 28, 3, 61, 58, 42, 50, 38, 29, 17, 4, 62, 47, 59, 36, 45, 43, 51, 22, 53, 39, 33, 30, 24, 18, 12, 5, 63, 55, 48, 27, 60, 41, 37, 16, 46, 35, 44, 21, 52, 32, 23, 11, 54, 26, 40, 15, 34, 20, 31, 10, 25, 14, 19, 9, 13, 8, 7, 6]
def tabB : AObj := .cells false 103 (tabL.map fun n => .int .u8 n)
/-- The memory of the program's variables. -/
def Glob (s : HS) : Prop := 0 < s.nx ∧ s.hp.get 0 = some tabB
theorem Glob.keep {s s' : HS} (h : Glob s) (a : Ab s.nx s s') : Glob s' := ⟨Nat.lt_of_lt_of_le h.1 a.nx, by rw [a.get (Nat.le_refl _) h.1]; exact h.2⟩

def isT (r : Option (Value × HS)) : Bool := match r with | some (.bool true, _) => true | _ => false
theorem isT_inv {r : Option (Value × HS)} (h : isT r = true) : ∃ s, r = some (.bool true, s) := by
  unfold isT at h
  split at h
  · exact ⟨_, rfl⟩
  · cases h
theorem globs : Tryd.prog.globals.size = 1 := by kernel_rfl
theorem low_glob {s : HS} (h : Glob s) : low Tryd.prog s = ⟨T.nil.put 0 (some tabB), 1⟩ := by
  unfold low
  rw [globs]
  show (⟨T.put .nil 0 (lowB s 0), 1⟩ : HS) = _
  have : lowB s 0 = some tabB := by unfold lowB; rw [h.2]; rfl
  rw [this]
theorem known_run : isT ((ev0 Tryd.prog 400).call 1 9 [] ⟨T.nil.put 0 (some tabB), 1⟩) = true := by kernel_rfl
theorem known_closed {s : HS} (h : Glob s) : ClosedB Tryd.prog 9 (low Tryd.prog s) true := by
  rw [low_glob h]
  obtain ⟨s, h⟩ := isT_inv known_run
  refine ⟨400, s, ?_⟩
  rw [globs]; exact h
end Go.Ev
