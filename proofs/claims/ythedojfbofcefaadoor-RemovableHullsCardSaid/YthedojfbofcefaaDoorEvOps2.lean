/- The operations, one by one: addresses, slices, what makes blocks and what writes them. -/
import Derived.Test.YthedojfbofcefaaDoorEvOps
namespace Go.Ev
open Go
variable {P : Program} {φ : Inj} {lk : Nat} {s : HS} {w : World}

theorem fieldA_inv {t : TypeId} {f off n : Nat} {ft : TypeId} (h : fieldA P t f = some (off, n, ft)) :
    ∃ fs x, P.underlying t = some (.struct fs) ∧ fs[f]? = some x ∧ x.offset = off ∧ x.type = ft ∧ szA P ft = some n := by
  unfold fieldA at h
  split at h
  · rename_i fs hu
    cases hx : fs[f]? with
    | none => rw [hx] at h; cases h
    | some x =>
      rw [hx] at h; simp only [Option.bind_some] at h
      cases hz : szA P x.type with
      | none => rw [hz] at h; cases h
      | some m => rw [hz] at h; cases h; exact ⟨fs, x, hu, hx, rfl, rfl, hz⟩
  · cases h

theorem fieldAddrA_sound {t : TypeId} {f : Nat} {x x' v : Value} (hx : VR φ x x') (h : fieldAddrA P t x f = some v) : ∃ v', (Instr.fieldAt t x' f).run P w = .ok v' w ∧ VR φ v v' := by
  unfold fieldAddrA at h
  split at h
  · rename_i a
    cases hf : fieldA P t f with
    | none => rw [hf] at h; cases h
    | some y =>
      obtain ⟨off, n, ft⟩ := y
      rw [hf] at h; simp only [Option.bind_some] at h
      split at h
      · cases h
      · rename_i hn
        cases h
        obtain ⟨fs, y, hu, hy, rfl, rfl, hz⟩ := fieldA_inv hf
        cases hx with
        | ptr id o im e =>
          refine ⟨.pointer (some ⟨im.blk, im.sh + o + y.offset, none⟩), ?_, ?_⟩
          · simp [Instr.fieldAt, run_underlying hu, hy, Instr.sureAddr, fieldPlace, szA_run hz, hn, addr_add]
          · rw [Nat.add_assoc]; exact .ptr id (o + y.offset) im e
  · cases h

theorem fieldValA_sound {t : TypeId} {f : Nat} {x x' v : Value} (hx : VR φ x x') (h : fieldValA P t x f = some v) : ∃ v', (Instr.field t x' f).run P w = .ok v' w ∧ VR φ v v' := by
  unfold fieldValA at h
  split at h
  · rename_i cs
    cases hf : fieldA P t f with
    | none => rw [hf] at h; cases h
    | some y =>
      obtain ⟨off, n, ft⟩ := y
      rw [hf] at h; simp only [Option.bind_some] at h
      obtain ⟨fs, y, hu, hy, rfl, rfl, hz⟩ := fieldA_inv hf
      cases hx with
      | agg _ ds s1 h1 =>
        obtain ⟨v', hv, hr⟩ := partA_rel (LR.of_arrays s1 h1) h
        refine ⟨v', ?_, hr⟩
        simp [Instr.field, run_underlying hu, hy, asAgg, partA_run hv]
  · cases h

theorem indexAddrA_sound {t : TypeId} {x x' i i' v : Value} (hx : VR φ x x') (hi : VR φ i i') (h : indexAddrA P t x i = some v) : ∃ v', (Instr.indexAt t x' i').run P w = .ok v' w ∧ VR φ v v' := by
  unfold indexAddrA at h
  split at h
  · rename_i k i
    cases hi
    split at h
    · rename_i e a len cap hu
      cases hz : szA P e with
      | none => rw [hz] at h; cases h
      | some n =>
        rw [hz] at h; simp only [Option.bind_some] at h
        split at h
        · rename_i hb
          cases h
          cases hx with
          | slice id off _ _ im hφ hc =>
            refine ⟨.pointer (some ⟨im.blk, im.sh + off + i.toNat * n, none⟩), ?_, ?_⟩
            · simp [Instr.indexAt, run_underlying hu, asIntOf, hb, szA_run hz, addr_add]
            · rw [Nat.add_assoc]; exact .ptr id _ im hφ
          | sliceU id off _ _ cap' im hφ hc h1 h2 h3 =>
            refine ⟨.pointer (some ⟨im.blk, im.sh + off + i.toNat * n, none⟩), ?_, ?_⟩
            · simp [Instr.indexAt, run_underlying hu, asIntOf, hb, szA_run hz, addr_add]
            · rw [Nat.add_assoc]; exact .ptr id _ im hφ
          | sliceE id off o' im hφ => omega
        · cases h
    · rename_i len e a hu
      cases hz : szA P e with
      | none => rw [hz] at h; cases h
      | some n =>
        rw [hz] at h; simp only [Option.bind_some] at h
        split at h
        · rename_i hb
          cases h
          cases hx with
          | ptr id off im hφ =>
            refine ⟨.pointer (some ⟨im.blk, im.sh + off + i.toNat * n, none⟩), ?_, ?_⟩
            · simp [Instr.indexAt, run_underlying hu, asIntOf, Instr.sureAddr, hb, szA_run hz, addr_add]
            · rw [Nat.add_assoc]; exact .ptr id _ im hφ
        · cases h
    · cases h
  · cases h

theorem indexA_sound {t : TypeId} {x x' i i' v : Value} (hx : VR φ x x') (hi : VR φ i i') (h : indexA P t x i = some v) : ∃ v', (Instr.index t x' i').run P w = .ok v' w ∧ VR φ v v' := by
  unfold indexA at h
  split at h
  · rename_i k i
    cases hi
    split at h
    · rename_i len e cs hu
      cases hz : szA P e with
      | none => rw [hz] at h; cases h
      | some n =>
        rw [hz] at h; simp only [Option.bind_some] at h
        split at h
        · rename_i hb
          cases hx with
          | agg _ ds s1 h1 =>
            obtain ⟨v', hv, hr⟩ := partA_rel (LR.of_arrays s1 h1) h
            refine ⟨v', ?_, hr⟩
            simp [Instr.index, run_underlying hu, asIntOf, hb, szA_run hz, partA_run hv]
        · cases h
    · rename_i st hu
      cases hx
      split at h
      · rename_i hb
        cases hs : st.data.toList[i.toNat]? with
        | none => rw [hs] at h; cases h
        | some b =>
          rw [hs] at h; cases h
          refine ⟨_, ?_, .int _ _⟩
          have : st[i.toNat]? = some b := by
            rw [Array.getElem?_toList] at hs
            obtain ⟨h1, h2⟩ := Array.getElem?_eq_some_iff.1 hs
            have h1' : i.toNat < st.size := h1
            rw [getElem?_pos st i.toNat h1']
            exact congrArg some h2
          simp [Instr.index, run_underlying hu, asIntOf, hb, this]
      · cases h
    · cases h
  · cases h

theorem natA_inv {v v' : Value} {n : Nat} (hr : VR φ v v') (h : natA v = some n) : ∃ k i, v' = .int k i ∧ 0 ≤ i ∧ i.toNat = n := by
  unfold natA at h
  split at h
  · rename_i k i
    split at h
    · rename_i hi; cases h; cases hr; exact ⟨k, i, rfl, hi, rfl⟩
    · cases h
  · cases h

theorem sliceBound_run {k : IntKind} {i : Int} {y : Nat} {c : BoundsCode} (h0 : 0 ≤ i) (h : i.toNat ≤ y) : (Instr.sliceBound (.int k i) y c).run P w = .ok i.toNat w := by
  have : 0 ≤ i ∧ i ≤ (y : Int) := ⟨h0, by omega⟩
  simp [Instr.sliceBound, asIntOf, this]

/-- Two optional operands that go together. -/
def OVR (φ : Inj) : Option Value → Option Value → Prop
  | none, none => True
  | some v, some v' => VR φ v v'
  | _, _ => False

theorem onatA_inv {v v' : Option Value} {n : Option Nat} (hr : OVR φ v v') (h : onatA v = some n) : (v' = none ∧ n = none) ∨ ∃ k i, v' = some (.int k i) ∧ 0 ≤ i ∧ n = some i.toNat := by
  cases v with
  | none => cases v' with
    | none => simp only [onatA, Option.some.injEq] at h; exact Or.inl ⟨rfl, h.symm⟩
    | some x => exact hr.elim
  | some x => cases v' with
    | none => exact hr.elim
    | some y =>
      simp only [onatA] at h
      cases hn : natA x with
      | none => rw [hn] at h; cases h
      | some m =>
        rw [hn] at h; cases h
        obtain ⟨k, i, h1, h2, h3⟩ := natA_inv hr hn
        exact Or.inr ⟨k, i, by rw [h1], h2, by rw [h3]⟩

theorem sliceBounds_run {isS : Bool} {len cap : Nat} {lo hi mx lo' hi' mx' : Option Value} {l h m : Option Nat} (rl : OVR φ lo lo') (rh : OVR φ hi hi') (rm : OVR φ mx mx')
    (hl : onatA lo = some l) (hh : onatA hi = some h) (hm : onatA mx = some m) (h1 : l.getD 0 ≤ h.getD len) (h2 : h.isSome = true → h.getD len ≤ m.getD cap) (h3 : m.getD cap ≤ cap)
    (h4 : m.isSome = true → h.isSome = true) : (Instr.sliceBounds isS len cap lo' hi' mx').run P w = .ok (l.getD 0, h.getD len, m.getD cap) w := by
  rcases onatA_inv rm hm with ⟨rfl, rfl⟩ | ⟨k3, i3, rfl, h03, rfl⟩ <;> rcases onatA_inv rh hh with ⟨rfl, rfl⟩ | ⟨k2, i2, rfl, h02, rfl⟩ <;>
    rcases onatA_inv rl hl with ⟨rfl, rfl⟩ | ⟨k1, i1, rfl, h01, rfl⟩ <;>
    simp only [Option.getD_none, Option.getD_some, Option.isSome_some, Option.isSome_none, forall_const, Bool.false_eq_true, false_implies, implies_true] at h1 h2 h3 h4 <;>
    (try (exact h4.elim)) <;>
    (unfold Instr.sliceBounds
     simp only [Sem.run_bind, Sem.run_pure, Result.andThen_ok, Option.getD_none, Option.getD_some]
     (try rw [sliceBound_run h03 h3])
     (try simp only [Result.andThen_ok])
     (try rw [sliceBound_run h02 h2])
     (try simp only [Result.andThen_ok])
     (try rw [sliceBound_run h01 h1])
     (try simp only [Result.andThen_ok]))

end Go.Ev
