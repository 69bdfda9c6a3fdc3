/- Frames outside a loop's own temporaries stay; loops with a raised lock; single steps whose answer is only partly known. -/
import Derived.Test.YthedojfbofcefaaDoorEvRule2
namespace Go.Ev
open Go
variable {P : Program} {lk sz : Nat}

/-- Is a temporary set by a code? -/
def asgOps (ops : List Oper) (i : Nat) : Bool := ops.any fun o => match o.dst with | some d => Nat.beq d i | none => false
def asgd : Code → Nat → Bool
  | .region _ ops _, i => asgOps ops.toList i
  | .seq a b, i => asgd a i || asgd b i
  | .cond _ a b, i => asgd a i || asgd b i
  | .block _ c, i => asgd c i
  | .loop c, i => asgd c i
  | .scope c, i => asgd c i
  | _, _ => false

def FKeep (c : Code) (fr f : Fr) : Prop := ∀ i, asgd c i = false → f.get i = fr.get i
def RKeep (R : Rec) : Prop := ∀ lk sz c fr s g f t, R.loop lk sz c fr s = some (g, f, t) → FKeep c fr f

theorem setA_keep {fr fr' : Fr} {o : Oper} {v : Value} (h : setA sz fr o.dst v = some fr') {i : Nat} (hi : asgOps [o] i = false) : fr'.get i = fr.get i := by
  unfold setA at h
  split at h
  · cases h; rfl
  · rename_i t ht
    split at h
    · cases h
      rw [T.get_put, if_neg]
      intro e
      simp [asgOps, ht, e] at hi
    · cases h

theorem asgOps_cons {o : Oper} {os : List Oper} {i : Nat} (h : asgOps (o :: os) i = false) : asgOps [o] i = false ∧ asgOps os i = false := by
  unfold asgOps at *
  simp only [List.any_cons, Bool.or_eq_false_iff, List.any_nil, Bool.or_false] at h ⊢
  exact h

theorem stepA_keep {R : Rec} {all : List Oper} {fr fr' : Fr} {s s' : HS} {o : Oper} (h : stepA P R lk sz all fr s o = some (fr', s')) {i : Nat} (hi : asgOps [o] i = false) : fr'.get i = fr.get i := by
  unfold stepA at h
  obtain ⟨w, _, h⟩ := bind_inv h
  split at h
  · obtain ⟨⟨v, s1⟩, _, h⟩ := bind_inv h
    simp only [Option.map_eq_some_iff] at h
    obtain ⟨f, h1, h2⟩ := h
    cases h2
    exact setA_keep h1 hi
  · simp only [Option.map_eq_some_iff] at h
    obtain ⟨f, h1, h2⟩ := h
    cases h2
    exact setA_keep h1 hi

theorem opsA_keep {R : Rec} {all : List Oper} : ∀ {ops : List Oper} {fr fr' : Fr} {s s' : HS}, opsA P R lk sz all ops fr s = some (fr', s') → ∀ {i : Nat}, asgOps ops i = false → fr'.get i = fr.get i := by
  intro ops
  induction ops with
  | nil => intro fr fr' s s' h i hi; cases h; rfl
  | cons o os ih =>
    intro fr fr' s s' h i hi
    obtain ⟨h1, h2⟩ := asgOps_cons hi
    simp only [opsA] at h
    obtain ⟨⟨f, t⟩, h3, h4⟩ := bind_inv h
    rw [ih h4 h2, stepA_keep h3 h1]

theorem drawA_keep {R : Rec} {all : List Oper} : ∀ {ops : List Oper} {ps : List PlanRow} {k : Nat} {made : List (Nat × Nat × Nat)} {fr fr' : Fr} {s s' : HS}, drawA P R lk sz all ops ps k made fr s = some (fr', s') →
    ∀ {i : Nat}, asgOps ops i = false → fr'.get i = fr.get i := by
  intro ops
  induction ops with
  | nil => intro ps k made fr fr' s s' h i hi; cases ps with | nil => cases h; rfl | cons p ps => cases h
  | cons o os ih =>
    intro ps k made fr fr' s s' h i hi
    cases ps with
    | nil => cases h
    | cons p ps =>
      obtain ⟨h1, h2⟩ := asgOps_cons hi
      simp only [drawA] at h
      obtain ⟨⟨f, t⟩, h3, h4'⟩ := bind_inv h
      obtain ⟨_, _, h4⟩ := bind_inv h4'
      rw [ih h4 h2, stepA_keep h3 h1]

theorem codeA_keep {R : Rec} (hR : RKeep R) : ∀ {c : Code} {lk sz : Nat} {fr f : Fr} {s t : HS} {g : Sig}, codeA P R lk sz c fr s = some (g, f, t) → FKeep c fr f := by
  intro c
  induction c with
  | skip => intro lk sz fr f s t g h i _; cases h; rfl
  | label l => intro lk sz fr f s t g h i _; cases h; rfl
  | region id ops draw =>
    intro lk sz fr f s t g h i hi
    cases draw with
    | false =>
      simp only [codeA, Option.map_eq_some_iff] at h
      obtain ⟨⟨f1, t1⟩, h1, h2⟩ := h
      cases h2
      exact opsA_keep h1 hi
    | true =>
      simp only [codeA] at h
      obtain ⟨pl, _, h⟩ := bind_inv h
      simp only [Option.map_eq_some_iff] at h
      obtain ⟨⟨f1, t1⟩, h1, h2⟩ := h
      cases h2
      exact drawA_keep h1 hi
  | seq x y ihx ihy =>
    intro lk sz fr f s t g h i hi
    simp only [asgd, Bool.or_eq_false_iff] at hi
    simp only [codeA] at h
    obtain ⟨⟨g1, f1, t1⟩, h1, h2⟩ := bind_inv h
    cases g1 with
    | normal => simp only at h2; rw [ihy h2 i hi.2, ihx h1 i hi.1]
    | exit j => cases h2; exact ihx h1 i hi.1
    | ret => cases h2; exact ihx h1 i hi.1
  | cond c x y ihx ihy =>
    intro lk sz fr f s t g h i hi
    simp only [asgd, Bool.or_eq_false_iff] at hi
    simp only [codeA] at h
    obtain ⟨v, _, h2⟩ := bind_inv h
    split at h2
    · split at h2
      · exact ihx h2 i hi.1
      · exact ihy h2 i hi.2
    · cases h2
  | block id c ih =>
    intro lk sz fr f s t g h i hi
    simp only [asgd] at hi
    simp only [codeA, Option.map_eq_some_iff] at h
    obtain ⟨⟨g1, f1, t1⟩, h1, h2⟩ := h
    cases g1 with
    | normal => cases h2; exact ih h1 i hi
    | ret => cases h2; exact ih h1 i hi
    | exit j =>
      simp only at h2
      split at h2 <;> (cases h2; exact ih h1 i hi)
  | loop c ih => intro lk sz fr f s t g h i hi; exact hR _ _ _ _ _ _ _ _ h i hi
  | rangeFunc fn ps assign body ih1 ih2 =>
    intro lk sz fr f s t g h i hi
    simp only [codeA] at h
    obtain ⟨v, _, h2⟩ := bind_inv h
    obtain ⟨⟨v1, s2⟩, _, h3⟩ := bind_inv h2
    simp only at h3
    split at h3
    · split at h3 <;> first | (cases h3; rfl) | cases h3
    · cases h3
  | exit id => intro lk sz fr f s t g h i _; cases h; rfl
  | scope c ih => intro lk sz fr f s t g h i hi; cases h
  | goto l => intro lk sz fr f s t g h i _; cases h
  | ret => intro lk sz fr f s t g h i _; cases h; rfl
  | refuse y => intro lk sz fr f s t g h i _; cases h

theorem ev_keep (P : Program) : ∀ n, RKeep (ev P n) := by
  intro n
  induction n with
  | zero => intro lk sz c fr s g f t h; cases h
  | succ n ih =>
    intro lk sz c fr s g f t h i hi
    change loopFA P (ev P n) lk sz c fr s = _ at h
    unfold loopFA at h
    obtain ⟨⟨g1, f1, t1⟩, h1, h2⟩ := bind_inv h
    have k1 := codeA_keep ih h1 i hi
    cases g1 with
    | normal => simp only at h2; rw [ih _ _ _ _ _ _ _ _ h2 i hi, k1]
    | exit j => cases h2; exact k1
    | ret => cases h2; exact k1

/-- The head of a loop, at a lock of its own; the temporaries that the loop does not set are as ahead of it. -/
theorem loop_k {lk' : Nat} {c : Code} {fr : Fr} {s s0 : HS} {C : Sig → Fr → HS → Prop} (I : Nat → Fr → HS → Prop) (m : Nat) (hle : lk ≤ lk') (hlk : lk' ≤ s0.nx) (h0 : I m fr s) (ha : Ab lk' s0 s)
    (h : ∀ m f t, I m f t → Ab lk' s0 t → FKeep c fr f → wpC P lk' sz c f t fun g f' t' => Ab lk' s0 t' → FKeep c fr f' → loopK I m C g f' t') : wpLoop P lk sz c fr s C := by
  have key : ∀ m f t, I m f t → Ab lk' s0 t → FKeep c fr f → wpLoop P lk' sz c f t C := by
    intro m
    induction m using Nat.strongRecOn with
    | _ m ih =>
      intro f t hI hA hF
      obtain ⟨n, g, f', t', h1, h2⟩ := wpC_ok (h m f t hI hA hF)
      have a := hA.trans (codeA_ab (ev_ab P n) (Nat.le_trans hlk hA.nx) h1)
      have b : FKeep c fr f' := fun i hi => by rw [codeA_keep (ev_keep P n) h1 i hi, hF i hi]
      have h3 := h2 a b
      refine wpLoop_step ⟨n, g, f', t', h1, ?_⟩
      cases g with
      | normal => obtain ⟨m', h4, h5⟩ := h3; exact ih m' h4 f' t' h5 a b
      | exit i => exact h3
      | ret => exact h3
  obtain ⟨n, g, f, t, h1, h2⟩ := key m fr s h0 ha fun _ _ => rfl
  exact ⟨n, g, f, t, (ev_le P (Nat.le_refl n)).loop hle h1, h2⟩

variable {all os : List Oper} {o : Oper} {fr fr' : Fr} {s s' : HS} {K : Fr → HS → Prop} {p : PlanRow} {ps : List PlanRow} {k : Nat} {Z : List (Nat × Nat × Nat)}
/-- A step whose answer is told by a condition. -/
theorem ops_opt {x : Option (Value × HS)} (hg : o.guard = none) (he : opA P (ev P 0) lk fr s o = x) (h : opt x fun q => opt (setA sz fr o.dst q.1) fun fr' => wpOps P lk sz all os fr' q.2 K) : wpOps P lk sz all (o :: os) fr s K := by
  subst he
  obtain ⟨⟨v, s'⟩, h1, h2⟩ := opt_inv h
  obtain ⟨fr', h3, h4⟩ := opt_inv h2
  exact ops_do hg h1 h3 h4
theorem ops_optG {x : Option (Value × HS)} {j d : Nat} {want b : Bool} (hg : o.guard = some (j, want)) (hd : (all[j]?).bind (·.dst) = some d) (hv : fr.get d = some (.bool b)) (hb : (b == want) = true)
    (he : opA P (ev P 0) lk fr s o = x) (h : opt x fun q => opt (setA sz fr o.dst q.1) fun fr' => wpOps P lk sz all os fr' q.2 K) : wpOps P lk sz all (o :: os) fr s K := by
  subst he
  obtain ⟨⟨v, s'⟩, h1, h2⟩ := opt_inv h
  obtain ⟨fr', h3, h4⟩ := opt_inv h2
  exact ops_doG hg hd hv hb h1 h3 h4
theorem d_opt {x : Option (Value × HS)} (hb : freeD p Z = true) (hg : o.guard = none)
    (he : opA P (ev P 0) (bif p.bar then lk else s.nx) fr s o = x) (h : opt x fun q => opt (setA sz fr o.dst q.1) fun fr' => wpD P lk sz all os ps (k + 1) ((k, s.nx, q.2.nx) :: Z) fr' q.2 K) : wpD P lk sz all (o :: os) (p :: ps) k Z fr s K := by
  subst he
  obtain ⟨⟨v, s'⟩, h1, h2⟩ := opt_inv h
  obtain ⟨fr', h3, h4⟩ := opt_inv h2
  exact d_do hb hg h1 h3 h4
theorem d_callG {dst : Option Tmp} {f : Operand} {args : Array Operand} {ats : Array TypeId} {ty : TypeId} {pos : String} {after : Array Edge} {as : List Value} {fv : Value} {j d : Nat} {want b : Bool}
    (hb : freeD p Z = true) (hd : (all[j]?).bind (·.dst) = some d) (hv : fr.get d = some (.bool b)) (hbw : (b == want) = true)
    (ha : omap (opdA P.globals.size fr) args.toList = some as) (hf : opdA P.globals.size fr f = some fv)
    (hc : wpCall P (bif p.bar then lk else s.nx) fv as s fun v s' => opt (setA sz fr dst v) fun fr' => wpD P lk sz all os ps (k + 1) ((k, s.nx, s'.nx) :: Z) fr' s' K) :
    wpD P lk sz all (⟨dst, .call ⟨.value f, args, ats⟩, ty, pos, after, some (j, want)⟩ :: os) (p :: ps) k Z fr s K := d_callW hb (by rw [wanted_guard rfl hd hv, hbw]) ha hf hc
theorem opt_ex {α : Type} {x : Option α} {Q k : α → Prop} (h : opt x Q) (hk : ∀ a, Q a → k a) : opt x k := opt_mono h hk
theorem k_loop_next {I : Nat → Fr → HS → Prop} {m m' : Nat} {C : Sig → Fr → HS → Prop} (hm : m' < m) (h : I m' fr s) : loopK I m C .normal fr s := ⟨m', hm, h⟩
theorem c_if {p : Bool} {x : Operand} {a b : Code} {C : Sig → Fr → HS → Prop} (hx : opdA P.globals.size fr x = some (.bool p)) (h : bif p then wpC P lk sz a fr s C else wpC P lk sz b fr s C) : wpC P lk sz (.cond x a b) fr s C := by
  cases p with
  | true => exact c_true hx h
  | false => exact c_false hx h
theorem if_t {A B : Prop} (h : A) : bif true then A else B := h
theorem if_f {A B : Prop} (h : B) : bif false then A else B := h
theorem bt_tf : (true == false) = false := rfl
theorem bt_ft : (false == true) = false := rfl
theorem bt_tt : (true == true) = true := rfl
theorem bt_ff : (false == false) = true := rfl
end Go.Ev
