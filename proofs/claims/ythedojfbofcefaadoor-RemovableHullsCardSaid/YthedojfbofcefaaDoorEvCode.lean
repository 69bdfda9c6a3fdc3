/- Code carried out: the clean run and the model's. -/
import Derived.Test.YthedojfbofcefaaDoorEvStep
namespace Go.Ev
open Go
variable {P : Program} {R : Rec} {φ : Inj} {sz lk B : Nat} {ro : Option Nat} {fr : Fr} {s : HS} {a : Act} {w : World}

theorem wantedA_sound {ops : Array Oper} {o : Oper} {b : Bool} (F : FrR φ sz fr a.tmps) (h : wantedA ops.toList fr o = some b) : Region.wanted o (yielded ops a.tmps) = b := by
  unfold wantedA at h
  unfold Region.wanted
  split at h
  · rename_i hg; rw [hg]; cases h; rfl
  · rename_i j want hg
    rw [hg]
    obtain ⟨g, h1, h2⟩ := bind_inv h
    obtain ⟨d, h3, h4⟩ := bind_inv h2
    obtain ⟨v, h5, h6⟩ := map_inv h4
    obtain ⟨v', h7, h8⟩ := F.2 d v h5
    rw [Array.getElem?_toList] at h1
    simp only [yielded, h1, Option.bind_some, h3, h7]
    cases h8 <;> simp_all

theorem setA_sound {φ' : Inj} {fr' : Fr} {dst : Option Tmp} {v v' : Value} (F : FrR φ' sz fr a.tmps) (hv : VR φ' v v') (h : setA sz fr dst v = some fr') : FrR φ' sz fr' (a.put dst v').tmps := by
  unfold setA at h
  split at h
  · cases h; exact F
  · split at h
    · rename_i ht; cases h; exact F.put ht hv
    · cases h

theorem put_defers (a : Act) (dst : Option Tmp) (v : Value) : (a.put dst v).defers = a.defers := by cases dst <;> rfl

/-- One operation of a region, carried out or passed over. -/
theorem stepA_sound (hR : RecOK P R) {n i lk' : Nat} {ops : Array Oper} {o : Oper} {fr' : Fr} {s' : HS} {K : Act → World → Prop} {Q : Exit → Act → World → Prop} (ho : ops[i]? = some o)
    (H : HR P φ s w) (F : FrR φ sz fr a.tmps) (hlk : lk' ≤ s.nx) (hfr : Fresh φ s.nx s'.nx) (h : stepA P R lk' sz ops.toList fr s o = some (fr', s'))
    (hk : ∀ v v' φ' w', VR φ' v v' → Post P φ lk' s w φ' s' w' → FrR φ' sz fr' (a.put o.dst v').tmps → setA sz fr o.dst v = some fr' → K (a.put o.dst v') w') :
    wpOpIn (Fn ro) n P ops Q i K a w := by
  unfold stepA at h
  obtain ⟨b, h1, h2⟩ := bind_inv h
  have hw := wantedA_sound F h1
  unfold wpOpIn
  rw [ho]
  simp only [hw]
  cases b with
  | true =>
    simp only [if_true] at h2 ⊢
    obtain ⟨⟨v, s1⟩, h3, h4⟩ := bind_inv h2
    obtain ⟨fr1, h5, h6⟩ := map_inv h4
    cases h6
    refine opA_sound hR H F hlk hfr h3 (fun v' φ' w' hv hp => ?_)
    exact hk v v' φ' w' hv hp (setA_sound (F.mono hp.ext) hv h5) h5
  | false =>
    simp only [Bool.false_eq_true, if_false] at h2 ⊢
    obtain ⟨fr1, h5, h6⟩ := map_inv h2
    cases h6
    exact ⟨fun _ _ => trivial, hk undef undef φ w (VR.plain 1 _ rfl) (Post.refl H) (setA_sound F (VR.plain 1 _ rfl) h5) h5⟩

/-! ### Names only grow -/
structure MonoR (R : Rec) : Prop where
  call : ∀ {lk f args s v s'}, R.call lk f args s = some (v, s') → s.nx ≤ s'.nx
  round : ∀ {lk l args s v s'}, R.round lk l args s = some (v, s') → s.nx ≤ s'.nx
  loop : ∀ {lk sz c fr s sig fr' s'}, R.loop lk sz c fr s = some (sig, fr', s') → s.nx ≤ s'.nx

theorem buildSliceA_nx {t : TypeId} {len : Nat} {ps : List (Nat × Value)} {v : Value} {s s' : HS} (h : buildSliceA P t len ps s = some (v, s')) : s.nx ≤ s'.nx := by
  unfold buildSliceA at h
  obtain ⟨_, _, h⟩ := bind_inv h
  obtain ⟨_, _, h⟩ := bind_inv h
  obtain ⟨_, _, h⟩ := bind_inv h
  split at h
  · obtain ⟨_, _, h⟩ := map_inv h
    cases h; exact Nat.le_succ _
  · cases h
theorem makeSliceA_nx {t : TypeId} {l c v : Value} {s s' : HS} (h : makeSliceA P t l c s = some (v, s')) : s.nx ≤ s'.nx := by
  unfold makeSliceA at h
  split at h
  · obtain ⟨_, _, h⟩ := bind_inv h
    obtain ⟨_, _, h⟩ := bind_inv h
    obtain ⟨_, _, h⟩ := bind_inv h
    obtain ⟨_, _, h⟩ := bind_inv h
    split at h
    · cases h; exact Nat.le_succ _
    · cases h
  · cases h
theorem appendA_nx {t : TypeId} {x y v : Value} {s s' : HS} (h : appendA P lk t x y s = some (v, s')) : s.nx ≤ s'.nx := by
  unfold appendA at h
  split at h
  · rename_i base len cap
    obtain ⟨e, _, h⟩ := bind_inv h
    obtain ⟨size, _, h⟩ := bind_inv h
    obtain ⟨by_, _, h⟩ := bind_inv h
    obtain ⟨z, _, h⟩ := bind_inv h
    obtain ⟨n, _, h⟩ := bind_inv h
    split at h
    · cases h
    · split at h
      · split at h
        · cases h; exact Nat.le_refl _
        · cases h
      · obtain ⟨new, _, h⟩ := bind_inv h
        cases base with
        | none =>
          simp only at h
          split at h
          · cases h; exact Nat.le_succ _
          · cases h
        | some a =>
          simp only at h
          split at h
          · split at h
            · obtain ⟨_, _, h⟩ := map_inv h; cases h; exact Nat.le_refl _
            · obtain ⟨_, _, h⟩ := map_inv h; cases h; exact Nat.le_succ _
          · split at h
            · obtain ⟨_, _, h⟩ := map_inv h; cases h; exact Nat.le_refl _
            · obtain ⟨old, _, h⟩ := bind_inv h
              split at h
              · split at h
                · cases h; exact Nat.le_succ _
                · cases h
              · cases h
  · cases h
theorem copyA_nx {t : TypeId} {x y v : Value} {s s' : HS} (h : copyA P lk t x y s = some (v, s')) : s.nx ≤ s'.nx := by
  unfold copyA at h
  split at h
  · rename_i base len cap
    obtain ⟨e, _, h⟩ := bind_inv h
    obtain ⟨size, _, h⟩ := bind_inv h
    obtain ⟨m, _, h⟩ := bind_inv h
    obtain ⟨new, _, h⟩ := bind_inv h
    cases base with
    | none => cases h; exact Nat.le_refl _
    | some a =>
      simp only at h
      split at h
      · cases h; exact Nat.le_refl _
      · obtain ⟨_, _, h⟩ := map_inv h; cases h; exact Nat.le_refl _
  · cases h
theorem clearA_nx {t : TypeId} {x v : Value} {s s' : HS} (h : clearA P lk t x s = some (v, s')) : s.nx ≤ s'.nx := by
  unfold clearA at h
  split at h
  · cases h; exact Nat.le_refl _
  · split at h
    · cases h; exact Nat.le_refl _
    · obtain ⟨z, _, h⟩ := bind_inv h
      split at h
      · cases h
      · obtain ⟨_, _, h⟩ := map_inv h; cases h; exact Nat.le_refl _
  · cases h
theorem storeV_nx {t : TypeId} {x v : Value} {s s' : HS} (h : storeV P lk s t x v = some s') : s.nx ≤ s'.nx := by
  unfold storeV at h
  split at h
  · obtain ⟨n, _, h⟩ := bind_inv h
    split at h
    · obtain ⟨_, _, h⟩ := map_inv h; subst h; exact Nat.le_refl _
    · cases h
  · cases h
theorem mapUpdateA_nx {t : TypeId} {m k v : Value} {s s' : HS} (h : mapUpdateA P lk t m k v s = some s') : s.nx ≤ s'.nx := by
  unfold mapUpdateA at h
  obtain ⟨_, _, h⟩ := bind_inv h
  obtain ⟨_, _, h⟩ := bind_inv h
  split at h
  · split at h
    · split at h
      · split at h
        · obtain ⟨r, _, h⟩ := bind_inv h
          cases r with
          | none => simp only [Option.some.injEq] at h; subst h; exact Nat.le_refl _
          | some p => simp only [Option.some.injEq] at h; subst h; exact Nat.le_refl _
        · cases h
      · cases h
    · cases h
  · cases h
theorem builtinA_nx {b : Builtin} {ts : List TypeId} {args : List Value} {v : Value} {s s' : HS} (h : builtinA P lk b ts args s = some (v, s')) : s.nx ≤ s'.nx := by
  unfold builtinA at h
  split at h
  · split at h
    · cases h
    · exact appendA_nx h
    · cases h
  · exact copyA_nx h
  · exact clearA_nx h
  · obtain ⟨_, _, h⟩ := map_inv h; cases h; exact Nat.le_refl _
  · cases h; exact Nat.le_refl _
  · cases h; exact Nat.le_refl _
  · cases h
theorem callA_nx (hm : MonoR R) {f : Value} {args : List Value} {v : Value} {s s' : HS} (h : callA R lk f args s = some (v, s')) : s.nx ≤ s'.nx := by
  unfold callA at h
  split at h
  · exact hm.call h
  · split at h
    · exact hm.round h
    · cases h
  · cases h

theorem opA_nx (hm : MonoR R) {o : Oper} {v : Value} {s s' : HS} (h : opA P R lk fr s o = some (v, s')) : s.nx ≤ s'.nx := by
  unfold opA at h
  split at h
  all_goals try (cases h; done)
  all_goals try (obtain ⟨_, rfl⟩ := val_inv h; exact Nat.le_refl _)
  all_goals try (obtain ⟨_, _, h2⟩ := bind_inv h; obtain ⟨_, rfl⟩ := val_inv h2; exact Nat.le_refl _)
  all_goals try (obtain ⟨_, _, h2⟩ := bind_inv h; obtain ⟨_, _, h3⟩ := bind_inv h2; obtain ⟨_, rfl⟩ := val_inv h3; exact Nat.le_refl _)
  all_goals try (obtain ⟨_, _, h2⟩ := bind_inv h; obtain ⟨_, _, h4⟩ := map_inv h2; cases h4; exact Nat.le_succ _)
  · obtain ⟨c, h1, h2⟩ := bind_inv h
    split at h2
    · obtain ⟨_, rfl⟩ := val_inv h2; exact Nat.le_refl _
    · cases h2
  · obtain ⟨_, _, h2⟩ := bind_inv h; exact buildSliceA_nx h2
  · obtain ⟨x, h1, h2⟩ := bind_inv h
    obtain ⟨y, h3, h4⟩ := bind_inv h2
    obtain ⟨s1, h5, h6⟩ := map_inv h4
    cases h6; exact storeV_nx h5
  · obtain ⟨x, h1, h2⟩ := bind_inv h
    split at h2
    · cases h2; exact Nat.le_refl _
    · cases h2; exact Nat.le_refl _
    · cases h2; exact Nat.le_refl _
    · cases h2
  · obtain ⟨fi, h1, h2⟩ := bind_inv h
    obtain ⟨ca, h3, h4⟩ := bind_inv h2
    cases h4; exact Nat.le_refl _
  · cases h; exact Nat.le_succ _
  · obtain ⟨x, h1, h2⟩ := bind_inv h
    obtain ⟨y, h3, h4⟩ := bind_inv h2
    exact makeSliceA_nx h4
  · obtain ⟨x, h1, h2⟩ := bind_inv h
    obtain ⟨lo, h3, h4⟩ := bind_inv h2
    obtain ⟨hi, h5, h6⟩ := bind_inv h4
    obtain ⟨mx, h7, h8⟩ := bind_inv h6
    obtain ⟨h9, rfl⟩ := val_inv h8; exact Nat.le_refl _
  · obtain ⟨x, h1, h2⟩ := bind_inv h
    obtain ⟨y, h3, h4⟩ := bind_inv h2
    obtain ⟨z, h5, h6⟩ := bind_inv h4
    obtain ⟨s1, h7, h8⟩ := map_inv h6
    cases h8; exact mapUpdateA_nx h7
  · obtain ⟨x, h1, h2⟩ := bind_inv h
    split at h2
    · obtain ⟨_, rfl⟩ := val_inv h2; exact Nat.le_refl _
    · cases h2
  · obtain ⟨args, h1, h2⟩ := bind_inv h
    split at h2
    · exact builtinA_nx h2
    · obtain ⟨fv, h3, h4⟩ := bind_inv h2; exact callA_nx hm h4
    · cases h2

theorem stepA_nx (hm : MonoR R) {ops : List Oper} {o : Oper} {s s' : HS} {fr' : Fr} (h : stepA P R lk sz ops fr s o = some (fr', s')) : s.nx ≤ s'.nx := by
  unfold stepA at h
  obtain ⟨b, h1, h2⟩ := bind_inv h
  split at h2
  · obtain ⟨⟨v, s1⟩, h3, h4⟩ := bind_inv h2
    obtain ⟨fr1, h5, h6⟩ := map_inv h4
    cases h6; exact opA_nx hm h3
  · obtain ⟨fr1, h5, h6⟩ := map_inv h2
    cases h6; exact Nat.le_refl _

theorem opsA_nx (hm : MonoR R) {ops : List Oper} : ∀ {os : List Oper} {fr fr' : Fr} {s s' : HS}, opsA P R lk sz ops os fr s = some (fr', s') → s.nx ≤ s'.nx := by
  intro os
  induction os with
  | nil => intro fr fr' s s' h; cases h; exact Nat.le_refl _
  | cons o os ih =>
    intro fr fr' s s' h
    obtain ⟨⟨fr1, s1⟩, h1, h2⟩ := bind_inv h
    exact Nat.le_trans (stepA_nx hm h1) (ih h2)

theorem drawA_nx (hm : MonoR R) {ops : List Oper} : ∀ {os : List Oper} {ps : List PlanRow} {k : Nat} {made : List (Nat × Nat × Nat)} {fr fr' : Fr} {s s' : HS},
    drawA P R lk sz ops os ps k made fr s = some (fr', s') → s.nx ≤ s'.nx := by
  intro os
  induction os with
  | nil =>
    intro ps k made fr fr' s s' h
    cases ps with
    | nil => cases h; exact Nat.le_refl _
    | cons p ps => cases h
  | cons o os ih =>
    intro ps k made fr fr' s s' h
    cases ps with
    | nil => cases h
    | cons p ps =>
      unfold drawA at h
      obtain ⟨⟨fr1, s1⟩, h1, h2⟩ := bind_inv h
      obtain ⟨made', _, h3⟩ := bind_inv h2
      have a1 := stepA_nx hm h1
      have a2 := ih h3
      split at a1 <;> split at a2 <;> simp_all <;> omega

theorem codeA_nx (hm : MonoR R) : ∀ {c : Code} {fr fr' : Fr} {s s' : HS} {sig : Sig}, codeA P R lk sz c fr s = some (sig, fr', s') → s.nx ≤ s'.nx := by
  intro c
  induction c with
  | skip => intro fr fr' s s' sig h; cases h; exact Nat.le_refl _
  | label l => intro fr fr' s s' sig h; cases h; exact Nat.le_refl _
  | region id ops draw =>
    intro fr fr' s s' sig h
    cases draw with
    | false => obtain ⟨⟨f1, s1⟩, h1, h2⟩ := map_inv h; cases h2; exact opsA_nx hm h1
    | true =>
      obtain ⟨pl, h0, h⟩ := bind_inv h
      obtain ⟨⟨f1, s1⟩, h1, h2⟩ := map_inv h; cases h2; exact drawA_nx hm h1
  | seq x y ihx ihy =>
    intro fr fr' s s' sig h
    obtain ⟨⟨sg, f1, s1⟩, h1, h2⟩ := bind_inv h
    have := ihx h1
    cases sg with
    | normal => exact Nat.le_trans this (ihy h2)
    | exit i => cases h2; exact this
    | ret => cases h2; exact this
  | cond c x y ihx ihy =>
    intro fr fr' s s' sig h
    obtain ⟨v, h1, h2⟩ := bind_inv h
    split at h2
    · split at h2
      · exact ihx h2
      · exact ihy h2
    · cases h2
  | block id c ih =>
    intro fr fr' s s' sig h
    obtain ⟨⟨sg, f1, s1⟩, h1, h2⟩ := map_inv h
    have := ih h1
    cases sg with
    | normal => cases h2; exact this
    | exit i => simp only at h2; split at h2 <;> (cases h2; exact this)
    | ret => cases h2; exact this
  | loop c ih => intro fr fr' s s' sig h; exact hm.loop h
  | rangeFunc f ps assign body ih1 ih2 =>
    intro fr fr' s s' sig h
    obtain ⟨fv, h1, h2⟩ := bind_inv h
    obtain ⟨⟨v, s2⟩, h3, h4⟩ := bind_inv h2
    have : s.nx + 1 ≤ s2.nx := by
      split at h3
      · exact hm.call h3
      · cases h3
    simp only at h4
    repeat' (first | (split at h4))
    all_goals first | (cases h4; done) | (simp only [Option.some.injEq, Prod.mk.injEq] at h4; obtain ⟨_, _, rfl⟩ := h4; simp only; omega)
  | exit id => intro fr fr' s s' sig h; cases h; exact Nat.le_refl _
  | scope c ih => intro fr fr' s s' sig h; cases h
  | goto l => intro fr fr' s s' sig h; cases h
  | ret => intro fr fr' s s' sig h; cases h; exact Nat.le_refl _
  | refuse y => intro fr fr' s s' sig h; cases h

theorem nextR_mono {R : Rec} (ih : MonoR R) : MonoR (nextR P R) := by
  refine ⟨fun {lk f args s v s'} h => ?_, fun {lk l args s v s'} h => ?_, fun {lk sz c fr s sig fr' s'} h => ?_⟩
  · change callFA P R lk f args s = some (v, s') at h
    unfold callFA at h
    split at h
    · cases h
    · split at h
      · cases h
      · split at h
        · cases h
        · obtain ⟨⟨sg, f1, s1⟩, h1, h2⟩ := bind_inv h
          have := codeA_nx ih h1
          cases sg with
          | exit i => cases h2
          | normal => obtain ⟨vs, _, h3⟩ := map_inv h2; cases h3; exact this
          | ret => obtain ⟨vs, _, h3⟩ := map_inv h2; cases h3; exact this
  · change roundFA P R lk l args s = some (v, s') at h
    unfold roundFA at h
    split at h
    · cases h
    · obtain ⟨L, _, h⟩ := bind_inv h
      split at h
      · cases h
      · obtain ⟨fr, _, h⟩ := bind_inv h
        obtain ⟨⟨sg, f1, s1⟩, h1, h⟩ := bind_inv h
        have a1 := codeA_nx ih h1
        cases sg with
        | exit i => cases h
        | ret => cases h
        | normal =>
          obtain ⟨L1, _, h⟩ := bind_inv h
          split at h
          · obtain ⟨⟨sg, f2, s2⟩, h2, h⟩ := bind_inv h
            have a2 := codeA_nx ih h2
            obtain ⟨L2, _, h⟩ := bind_inv h
            simp only at a2
            cases sg <;> (cases h; simp only; omega)
          · cases h
  · change loopFA P R lk sz c fr s = some (sig, fr', s') at h
    unfold loopFA at h
    obtain ⟨⟨sg, f1, s1⟩, h1, h2⟩ := bind_inv h
    have := codeA_nx ih h1
    cases sg with
    | normal => exact Nat.le_trans this (ih.loop h2)
    | exit i => cases h2; exact this
    | ret => cases h2; exact this

theorem ev0_mono (P : Program) : ∀ n, MonoR (ev0 P n) := by
  intro n
  induction n with
  | zero => exact ⟨fun h => (by cases h), fun h => (by cases h), fun h => (by cases h)⟩
  | succ n ih => exact nextR_mono ih
end Go.Ev
