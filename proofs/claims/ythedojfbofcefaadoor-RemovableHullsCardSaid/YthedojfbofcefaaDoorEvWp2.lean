/- Rules for loops and calls. -/
import Derived.Test.YthedojfbofcefaaDoorEvWp
namespace Go.Ev
open Go
variable {P : Program} {lk sz : Nat}

theorem Ab.lower {lk lk' : Nat} {s s' : HS} (h : lk' ≤ lk) (hl : lk ≤ s.nx) (a : Ab lk s s') : Ab lk' s s' := ⟨a.nx, fun _ id hid => a.lock hl id (by omega), a.bnd⟩
theorem Ab.get {lk : Nat} {s s' : HS} (a : Ab lk s s') (hl : lk ≤ s.nx) {id : Nat} (h : id < lk) : s'.hp.get id = s.hp.get id := a.lock hl id h

/-! ### Less is asked -/
theorem wpCall_mono {f : Value} {args : List Value} {s : HS} {K K' : Value → HS → Prop} (h : wpCall P lk f args s K) (hk : ∀ v s', K v s' → K' v s') : wpCall P lk f args s K' := by
  unfold wpCall at *
  split at h
  · exact wpF.mono h hk
  · obtain ⟨h1, h2, n, v, s', h3, h4⟩ := h; exact ⟨h1, h2, n, v, s', h3, hk _ _ h4⟩
  · cases h

theorem wpOp_mono {fr : Fr} {s : HS} {o : Oper} {K K' : Value → HS → Prop} (h : wpOp P lk fr s o K) (hk : ∀ v s', K v s' → K' v s') : wpOp P lk fr s o K' := by
  unfold wpOp at *
  split at h
  · exact opt_mono h fun as h => opt_mono h fun f h => wpCall_mono h hk
  · exact opt_mono h fun p h => hk _ _ h

theorem wpStep_mono {ops : List Oper} {fr : Fr} {s : HS} {o : Oper} {K K' : Fr → HS → Prop} (h : wpStep P lk sz ops fr s o K) (hk : ∀ f t, K f t → K' f t) : wpStep P lk sz ops fr s o K' := by
  refine opt_mono h fun w h => ?_
  cases w with
  | true => exact wpOp_mono h fun v s' h => opt_mono h fun f h => hk _ _ h
  | false => exact opt_mono h fun f h => hk _ _ h

theorem wpOps_mono {all : List Oper} {K K' : Fr → HS → Prop} (hk : ∀ f t, K f t → K' f t) : ∀ {ops : List Oper} {fr : Fr} {s : HS}, wpOps P lk sz all ops fr s K → wpOps P lk sz all ops fr s K' := by
  intro ops
  induction ops with
  | nil => intro fr s h; exact hk _ _ h
  | cons o os ih => intro fr s h; exact wpStep_mono h fun f t h => ih h

theorem wpDraw_mono {all : List Oper} {K K' : Fr → HS → Prop} (hk : ∀ f t, K f t → K' f t) : ∀ {ops : List Oper} {ps : List PlanRow} {k : Nat} {made : List (Nat × Nat × Nat)} {fr : Fr} {s : HS},
    wpDraw P lk sz all ops ps k made fr s K → wpDraw P lk sz all ops ps k made fr s K' := by
  intro ops
  induction ops with
  | nil => intro ps k made fr s h; cases ps with | nil => exact hk _ _ h | cons p ps => cases h
  | cons o os ih => intro ps k made fr s h; cases ps with | nil => cases h | cons p ps => exact wpStep_mono h fun f t h => opt_mono h fun _ h => ih h

theorem wpC_mono : ∀ {c : Code} {fr : Fr} {s : HS} {K K' : Sig → Fr → HS → Prop}, wpC P lk sz c fr s K → (∀ g f t, K g f t → K' g f t) → wpC P lk sz c fr s K' := by
  intro c
  induction c with
  | skip => intro fr s K K' h hk; exact hk _ _ _ h
  | label l => intro fr s K K' h hk; exact hk _ _ _ h
  | region id ops draw =>
    intro fr s K K' h hk
    cases draw with
    | false => exact wpOps_mono (fun f t h => hk _ _ _ h) h
    | true => exact opt_mono h fun pl h => wpDraw_mono (fun f t h => hk _ _ _ h) h
  | seq x y ihx ihy =>
    intro fr s K K' h hk
    refine ihx h fun g f t h => ?_
    cases g with
    | normal => exact ihy h hk
    | exit i => exact hk _ _ _ h
    | ret => exact hk _ _ _ h
  | cond c x y ihx ihy =>
    intro fr s K K' h hk
    refine opt_mono h fun v h => ?_
    cases v <;> first | (cases h; done) | skip
    rename_i b
    cases b with
    | true => exact ihx h hk
    | false => exact ihy h hk
  | block id c ih =>
    intro fr s K K' h hk
    refine ih h fun g f t h => ?_
    cases g with
    | normal => exact hk _ _ _ h
    | ret => exact hk _ _ _ h
    | exit i =>
      simp only at h ⊢
      split at h
      · rename_i hi; rw [if_pos hi]; exact hk _ _ _ h
      · rename_i hi; rw [if_neg hi]; exact hk _ _ _ h
  | loop c ih => intro fr s K K' h hk; obtain ⟨n, g, f, t, h1, h2⟩ := h; exact ⟨n, g, f, t, h1, hk _ _ _ h2⟩
  | rangeFunc f ps assign body ih1 ih2 =>
    intro fr s K K' h hk
    refine opt_mono h fun v h => ?_
    split at h
    · exact wpF.mono h fun v s2 h => opt_mono h fun r h => hk _ _ _ h
    · cases h
  | exit id => intro fr s K K' h hk; exact hk _ _ _ h
  | scope c ih => intro fr s K K' h hk; cases h
  | goto l => intro fr s K K' h hk; cases h
  | ret => intro fr s K K' h hk; exact hk _ _ _ h
  | refuse y => intro fr s K K' h hk; cases h

/-! ### Loops -/
theorem wpLoop_step {c : Code} {fr : Fr} {s : HS} {K : Sig → Fr → HS → Prop}
    (h : ∃ n g f t, codeA P (ev P n) lk sz c fr s = some (g, f, t) ∧ match g with | .normal => wpLoop P lk sz c f t K | .exit i => K (.exit i) f t | .ret => K .ret f t) : wpLoop P lk sz c fr s K := by
  obtain ⟨n, g, f, t, h1, h2⟩ := h
  cases g with
  | normal =>
    obtain ⟨m, g', f', t', h3, h4⟩ := h2
    refine ⟨max n m + 1, g', f', t', ?_, h4⟩
    show loopFA P (ev P (max n m)) lk sz c fr s = _
    unfold loopFA
    rw [codeA_le (ev_le P le_max.1) (Nat.le_refl _) h1]
    exact (ev_le P le_max.2).loop (Nat.le_refl _) h3
  | exit i => exact ⟨n + 1, _, _, _, by show loopFA P (ev P n) lk sz c fr s = _; unfold loopFA; rw [h1]; rfl, h2⟩
  | ret => exact ⟨n + 1, _, _, _, by show loopFA P (ev P n) lk sz c fr s = _; unfold loopFA; rw [h1]; rfl, h2⟩

/-- What holds at the head of a loop, with a measure that falls. -/
theorem wpLoop_inv {c : Code} {K : Sig → Fr → HS → Prop} (s0 : HS) (I : Nat → Fr → HS → Prop) (hlk : lk ≤ s0.nx)
    (h : ∀ m f t, I m f t → Ab lk s0 t → wpC P lk sz c f t fun g f' t' => Ab lk s0 t' → match g with | .normal => ∃ m', m' < m ∧ I m' f' t' | .exit i => K (.exit i) f' t' | .ret => K .ret f' t') :
    ∀ m f t, I m f t → Ab lk s0 t → wpLoop P lk sz c f t K := by
  intro m
  induction m using Nat.strongRecOn with
  | _ m ih =>
    intro f t hI hA
    obtain ⟨n, g, f', t', h1, h2⟩ := wpC_ok (h m f t hI hA)
    have a := hA.trans (codeA_ab (ev_ab P n) (Nat.le_trans hlk hA.nx) h1)
    have h3 := h2 a
    refine wpLoop_step ⟨n, g, f', t', h1, ?_⟩
    cases g with
    | normal => obtain ⟨m', h4, h5⟩ := h3; exact ih m' h4 f' t' h5 a
    | exit i => exact h3
    | ret => exact h3

/-! ### Calls -/
def retK (P : Program) (rs : List ResultVar) (K : Value → HS → Prop) : Sig → Fr → HS → Prop
  | .exit _, _, _ => False
  | .normal, f, t => opt (omap (resA P f t.hp) rs) fun vs => K (packR vs) t
  | .ret, f, t => opt (omap (resA P f t.hp) rs) fun vs => K (packR vs) t

theorem wpF_ofR {f : FuncId} {fn : Func} {c : Code} {rs : List ResultVar} {a0 : Value} {as : List Value} {args : List Value} {s : HS} {K : Value → HS → Prop} (hf : P.funcs[f]? = some fn) (hb : fn.body = some c) (hn : (fn.name == "runtime.NumGoroutine") = false)
    (ha : Nat.ble args.length fn.ntmps = true) (hr : fn.results.toList = rs) (hlk : lk ≤ s.nx) (hargs : args = a0 :: as)
    (h : wpC P lk fn.ntmps c (paramsA .nil args 0) s fun g f t => Ab lk s t → retK P rs K g f t) : wpF P lk f args s K := by
  subst hr
  obtain ⟨n, g, fr, t, h1, h2⟩ := wpC_ok h
  have h3 := h2 (codeA_ab (ev_ab P n) hlk h1)
  have hne : ¬ (fn.name = "runtime.NumGoroutine" ∨ fn.ntmps < args.length) := by
    rintro (e | e)
    · rw [e] at hn; simp at hn
    · have := Nat.le_of_ble_eq_true ha; omega
  cases g with
  | exit i => cases h3
  | normal =>
    obtain ⟨vs, h4, h5⟩ := opt_inv h3
    refine ⟨n + 1, _, _, ?_, h5⟩
    show (match orc P f args s with | some b => some (Value.bool b, s) | none => callFA P (ev P n) lk f args s) = _
    rw [show orc P f args s = none by rw [hargs]; exact orc_cons]
    show callFA P (ev P n) lk f args s = _
    unfold callFA
    rw [hf]; simp only [hb]; rw [if_neg hne, h1]; simp only [Option.bind_some]; rw [h4]; rfl
  | ret =>
    obtain ⟨vs, h4, h5⟩ := opt_inv h3
    refine ⟨n + 1, _, _, ?_, h5⟩
    show (match orc P f args s with | some b => some (Value.bool b, s) | none => callFA P (ev P n) lk f args s) = _
    rw [show orc P f args s = none by rw [hargs]; exact orc_cons]
    show callFA P (ev P n) lk f args s = _
    unfold callFA
    rw [hf]; simp only [hb]; rw [if_neg hne, h1]; simp only [Option.bind_some]; rw [h4]; rfl

theorem wpF_of {f : FuncId} {fn : Func} {c : Code} {r : ResultVar} {rs : List ResultVar} {a0 : Value} {as : List Value} {s : HS} {K : Value → HS → Prop} (hf : P.funcs[f]? = some fn) (hb : fn.body = some c) (hn : (fn.name == "runtime.NumGoroutine") = false)
    (ha : Nat.ble (a0 :: as).length fn.ntmps = true) (hr : fn.results.toList = r :: rs) (hlk : lk ≤ s.nx)
    (h : wpC P lk fn.ntmps c (paramsA .nil (a0 :: as) 0) s fun g f t => Ab lk s t → retK P (r :: rs) K g f t) : wpF P lk f (a0 :: as) s K := wpF_ofR hf hb hn ha hr hlk rfl h

/-- A closed call. -/
theorem wpF_closed {f : FuncId} {b : Bool} {s : HS} {K : Value → HS → Prop} (h : ClosedB P f (low P s) b) (k : K (.bool b) s) : wpF P lk f [] s K := by
  refine ⟨1, .bool b, s, ?_, k⟩
  show (match orc P f [] s with | some b => some (Value.bool b, s) | none => callFA P (ev P 0) lk f [] s) = _
  rw [orc_of h]

/-- A call that leaves all blocks alone, inside a run that leaves fewer alone. -/
theorem wpF.use {lk' : Nat} {f : FuncId} {args : List Value} {s : HS} {K K' : Value → HS → Prop} (h : wpF P lk' f args s K) (hl : lk ≤ lk') (hs : lk' ≤ s.nx) (hk : ∀ v s', K v s' → Ab lk' s s' → K' v s') : wpF P lk f args s K' := by
  obtain ⟨n, v, s', h1, h2⟩ := h
  exact ⟨n, v, s', (ev_le P (Nat.le_refl n)).call hl h1, hk v s' h2 ((ev_ab P n).call hs h1)⟩
end Go.Ev
