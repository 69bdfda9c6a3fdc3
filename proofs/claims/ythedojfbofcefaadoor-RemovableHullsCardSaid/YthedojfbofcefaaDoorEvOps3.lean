/- The operations, one by one: slicing, what is built. -/
import Derived.Test.YthedojfbofcefaaDoorEvOps2
namespace Go.Ev
open Go
variable {P : Program} {φ : Inj} {lk : Nat} {s : HS} {w : World}

theorem sliceAt_slice {t e : TypeId} {n : Nat} {a : Option Addr} {len cap : Nat} {lo hi mx : Option Value} {l h m : Nat} (hu : P.underlying t = some (.slice e)) (hz : szA P e = some n)
    (hb : (Instr.sliceBounds true len cap lo hi mx).run P w = .ok (l, h, m) w) :
    (Instr.sliceAt t (.slice a len cap) lo hi mx).run P w = .ok (.slice (if m = l then a else a.map (·.add (l * n))) (h - l) (m - l)) w := by
  simp [Instr.sliceAt, run_underlying hu, Instr.slice, hb, szA_run hz]

theorem sliceA_sound (H : HR P φ s w) {t : TypeId} {x x' v : Value} {lo hi mx lo' hi' mx' : Option Value} (hx : VR φ x x') (rl : OVR φ lo lo') (rh : OVR φ hi hi') (rm : OVR φ mx mx')
    (hv : sliceA P s.hp t x lo hi mx = some v) : ∃ v', (Instr.sliceAt t x' lo' hi' mx').run P w = .ok v' w ∧ VR φ v v' := by
  unfold sliceA at hv
  cases hl : onatA lo with
  | none => rw [hl] at hv; cases hv
  | some l =>
  rw [hl] at hv; simp only [Option.bind_some] at hv
  cases hh : onatA hi with
  | none => rw [hh] at hv; cases hv
  | some h =>
  rw [hh] at hv; simp only [Option.bind_some] at hv
  cases hm : onatA mx with
  | none => rw [hm] at hv; cases hv
  | some m =>
  rw [hm] at hv; simp only [Option.bind_some] at hv
  split at hv
  · -- a string
    rename_i st hu
    cases hx
    split at hv
    · rename_i hc
      obtain ⟨rfl, h1, h2⟩ := hc
      cases hv
      have hmx : mx' = none := by
        rcases onatA_inv rm hm with ⟨h, _⟩ | ⟨_, _, _, _, h⟩
        · exact h
        · cases h
      subst hmx
      have hb := sliceBounds_run (P := P) (w := w) (isS := false) (len := st.size) (cap := st.size) rl rh (show OVR φ mx none from rm) hl hh hm h1 (fun _ => h2) (Nat.le_refl _) (by simp)
      refine ⟨_, ?_, .string _⟩
      simp [Instr.sliceAt, run_underlying hu, Instr.slice, hb]
    · cases hv
  · -- a slice
    rename_i e a len cap hu
    cases hz : szA P e with
    | none => rw [hz] at hv; cases hv
    | some n =>
    rw [hz] at hv; simp only [Option.bind_some] at hv
    split at hv
    · -- with a third index
      rename_i m
      split at hv
      · rename_i hc
        obtain ⟨h1, h2, h4, hmu, h3⟩ := hc
        cases hv
        have hmc : ∀ c, m ≤ c → (Instr.sliceBounds true len c lo' hi' mx').run P w = .ok (l.getD 0, h.getD len, m) w := fun c hc =>
          sliceBounds_run (P := P) (w := w) (isS := true) (len := len) (cap := c) rl rh rm hl hh hm h1 (fun _ => h2) hc (fun _ => h4)
        cases hx with
        | nilslice =>
          rcases h3 with ⟨hc, h3⟩ | ⟨hc, h3, h5⟩
          · refine ⟨_, sliceAt_slice hu hz (hmc cap h3), ?_⟩
            simp only [Option.map_none, ite_self]; exact .nilslice _ _
          · refine ⟨_, sliceAt_slice hu hz (hmc cap (by omega)), ?_⟩
            simp only [Option.map_none, ite_self]; exact .nilslice _ _
        | slice id off _ _ im hφ hc =>
          refine ⟨_, sliceAt_slice hu hz (hmc cap (by omega)), ?_⟩
          simp only [Option.map_some, addr_add]
          split
          · exact .slice id off _ _ im hφ (by omega)
          · rw [Nat.add_assoc]; exact .slice id _ _ _ im hφ (by omega)
        | sliceU id off _ _ cap' im hφ hc k1 k2 k3 =>
          refine ⟨_, sliceAt_slice hu hz (hmc cap' (by omega)), ?_⟩
          simp only [Option.map_some, addr_add]
          split
          · exact .slice id off _ _ im hφ (by omega)
          · rw [Nat.add_assoc]; exact .slice id _ _ _ im hφ (by omega)
        | sliceE id off o' im hφ => omega
      · cases hv
    · -- without
      have hmx : mx' = none := by
        rcases onatA_inv rm hm with ⟨h, _⟩ | ⟨_, _, _, _, h⟩
        · exact h
        · cases h
      subst hmx
      split at hv
      · rename_i hcap
        split at hv
        · rename_i hc
          obtain ⟨h1, h2⟩ := hc
          cases hv
          have hb := sliceBounds_run (P := P) (w := w) (isS := true) (len := len) (cap := cap) rl rh (show OVR φ mx none from rm) hl hh hm h1 (fun _ => h2) (Nat.le_refl _) (by simp)
          cases hx with
          | nilslice =>
            refine ⟨_, sliceAt_slice hu hz hb, ?_⟩
            simp only [Option.getD_none, Option.map_none, ite_self]; exact .nilslice _ _
          | slice id off _ _ im hφ hc =>
            refine ⟨_, sliceAt_slice hu hz hb, ?_⟩
            simp only [Option.getD_none, Option.map_some, addr_add]
            split
            · exact .slice id off _ _ im hφ (by omega)
            · rw [Nat.add_assoc]; exact .slice id _ _ _ im hφ (by omega)
          | sliceU id off _ _ cap' im hφ hc k1 k2 k3 => omega
          | sliceE id off o' im hφ => omega
        · cases hv
      · rename_i hcap
        split at hv
        · rename_i a
          split at hv
          · rename_i hc
            obtain ⟨h1, h2, h3⟩ := hc
            cases hv
            cases hx with
            | slice id off _ _ im hφ hc => omega
            | sliceU id off _ _ cap' im hφ hc k1 k2 k3 =>
              have hb := sliceBounds_run (P := P) (w := w) (isS := true) (len := len) (cap := cap') rl rh (show OVR φ mx none from rm) hl hh hm h1 (fun _ => by simp only [Option.getD_none]; omega) (Nat.le_refl _) (by simp)
              have hes : im.esz = n := by
                simp only [liveE] at h3
                split at h3
                · rename_i hg
                  obtain ⟨im', e1, e2⟩ := H.obj _ _ hg
                  rw [hφ] at e1; cases e1
                  rw [e2.1] at h3; simpa using h3
                · cases h3
              refine ⟨_, sliceAt_slice hu hz hb, ?_⟩
              simp only [Option.getD_none, Option.map_some, addr_add]
              by_cases hcl : cap' = l.getD 0
              · rw [if_pos hcl]
                have e1 : h.getD len - l.getD 0 = 0 := by omega
                have e2 : UNK + (cap - UNK - l.getD 0) = UNK := by omega
                rw [e1, e2, hcl, Nat.sub_self]
                exact .sliceE id _ _ im hφ
              · rw [if_neg hcl, Nat.add_assoc]
                refine .sliceU id _ _ _ _ im hφ (by omega) (by omega) (by omega) ?_
                rw [hes] at k3 ⊢
                have : l.getD 0 * n + (cap' - l.getD 0) * n = cap' * n := by rw [← Nat.add_mul]; congr 1; omega
                omega
            | sliceE id off o' im hφ =>
              have e0 : l.getD 0 = 0 := by omega
              have e1 : h.getD 0 = 0 := by omega
              have hb := sliceBounds_run (P := P) (w := w) (isS := true) (len := 0) (cap := 0) rl rh (show OVR φ mx none from rm) hl hh hm h1 (fun _ => by simp only [Option.getD_none]; omega) (Nat.le_refl _) (by simp)
              refine ⟨_, sliceAt_slice hu hz hb, ?_⟩
              simp only [Option.getD_none, e0, e1, if_true, Nat.sub_self, Nat.zero_mul, Nat.add_zero]
              exact .sliceE id _ _ im hφ
          · cases hv
        · cases hv
  · -- an array
    rename_i len e a hu
    cases hz : szA P e with
    | none => rw [hz] at hv; cases hv
    | some n =>
    rw [hz] at hv; simp only [Option.bind_some] at hv
    split at hv
    · rename_i hc
      obtain ⟨h1, h2, h3, hlu, h4⟩ := hc
      cases hv
      cases hx with
      | ptr id off im hφ =>
        have hb := sliceBounds_run (P := P) (w := w) (isS := false) (len := len) (cap := len) rl rh rm hl hh hm h1 (fun _ => h2) h3 h4
        refine ⟨.slice (some (if m.getD len = l.getD 0 then ⟨im.blk, im.sh + off, none⟩ else (⟨im.blk, im.sh + off, none⟩ : Addr).add (l.getD 0 * n))) (h.getD len - l.getD 0) (m.getD len - l.getD 0), ?_, ?_⟩
        · simp [Instr.sliceAt, run_underlying hu, Instr.sureAddr, hb, szA_run hz]
        · simp only [addr_add]
          split
          · exact .slice id off _ _ im hφ (by omega)
          · rw [Nat.add_assoc]; exact .slice id _ _ _ im hφ (by omega)
    · cases hv
  · cases hv

end Go.Ev
