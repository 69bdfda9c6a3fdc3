/- What a run comes to, as a condition on the state ahead of it: no fuel in sight. -/
import Derived.Test.YthedojfbofcefaaDoorEvOrc
namespace Go.Ev
open Go
variable {P : Program} {lk sz : Nat}

def opt {α : Type} : Option α → (α → Prop) → Prop
  | some a, k => k a
  | none, _ => False
theorem opt_some {α : Type} (a : α) (k : α → Prop) : opt (some a) k = k a := rfl
theorem opt_of {α : Type} {x : Option α} {a : α} {k : α → Prop} (h : x = some a) (hk : k a) : opt x k := by rw [h]; exact hk
theorem opt_inv {α : Type} {x : Option α} {k : α → Prop} (h : opt x k) : ∃ a, x = some a ∧ k a := by
  cases x with
  | none => cases h
  | some a => exact ⟨a, rfl, h⟩
theorem opt_mono {α : Type} {x : Option α} {k k' : α → Prop} (h : opt x k) (hk : ∀ a, k a → k' a) : opt x k' := by
  obtain ⟨a, rfl, h⟩ := opt_inv h; exact hk a h

/-- A function that is called. -/
def wpF (P : Program) (lk : Nat) (f : FuncId) (args : List Value) (s : HS) (K : Value → HS → Prop) : Prop := ∃ n v s', (ev P n).call lk f args s = some (v, s') ∧ K v s'
def wpRound (P : Program) (lk l : Nat) (args : List Value) (s : HS) (K : Value → HS → Prop) : Prop := ∃ n v s', (ev P n).round lk l args s = some (v, s') ∧ K v s'
def wpLoop (P : Program) (lk sz : Nat) (c : Code) (fr : Fr) (s : HS) (K : Sig → Fr → HS → Prop) : Prop := ∃ n g f t, (ev P n).loop lk sz c fr s = some (g, f, t) ∧ K g f t

def wpCall (P : Program) (lk : Nat) (f : Value) (args : List Value) (s : HS) (K : Value → HS → Prop) : Prop :=
  match f with
  | .func (.func g) first captured => wpF P lk g (first.toList ++ args ++ captured.toList) s K
  | .func (.yield l) first captured => first.toList = [] ∧ captured.toList = [] ∧ wpRound P lk l args s K
  | _ => False

def wpOp (P : Program) (lk : Nat) (fr : Fr) (s : HS) (o : Oper) (K : Value → HS → Prop) : Prop :=
  match o.op with
  | .call ⟨.value f, args, _⟩ => opt (omap (opdA P.globals.size fr) args.toList) fun args => opt (opdA P.globals.size fr f) fun f => wpCall P lk f args s K
  | _ => opt (opA P (ev P 0) lk fr s o) fun p => K p.1 p.2

def wpStep (P : Program) (lk sz : Nat) (ops : List Oper) (fr : Fr) (s : HS) (o : Oper) (K : Fr → HS → Prop) : Prop :=
  opt (wantedA ops fr o) fun w => match w with
    | true => wpOp P lk fr s o fun v s' => opt (setA sz fr o.dst v) fun fr' => K fr' s'
    | false => opt (setA sz fr o.dst undef) fun fr' => K fr' s

def wpOps (P : Program) (lk sz : Nat) (all : List Oper) : List Oper → Fr → HS → (Fr → HS → Prop) → Prop
  | [], fr, s, K => K fr s
  | o :: os, fr, s, K => wpStep P lk sz all fr s o fun fr' s' => wpOps P lk sz all os fr' s' K

def wpDraw (P : Program) (lk sz : Nat) (all : List Oper) : List Oper → List PlanRow → Nat → List (Nat × Nat × Nat) → Fr → HS → (Fr → HS → Prop) → Prop
  | o :: os, p :: ps, k, made, fr, s, K =>
    wpStep P (if p.bar then lk else s.nx) sz all fr (hid s ((made.filter fun m => p.beside.contains m.1).map (·.2))) o fun fr' s1 =>
      opt (noteA P.globals.size p k fr o (if s.nx < s1.nx then (k, s.nx, s1.nx) :: made else made)) fun made' => wpDraw P lk sz all os ps (k + 1) made' fr' (unh s s1 ((made.filter fun m => p.beside.contains m.1).map (·.2))) K
  | [], [], _, _, fr, s, K => K fr s
  | _, _, _, _, _, _, _ => False

def rfEnd (fr : Fr) (nx : Nat) (s2 : HS) : Option (Sig × Fr × HS) :=
    match s2.hp.get nx with
    | some (.loop L) =>
      let s3 : HS := { s2 with hp := s2.hp.put nx none }
      match L.state, L.pending with
      | .busy, _ => none
      | _, none => some (.normal, fr, s3)
      | _, some .ret => some (.ret, fr, s3)
      | _, some (.exit id) => some (.exit id, fr, s3)
      | _, _ => none
    | _ => none

def wpC (P : Program) (lk sz : Nat) : Code → Fr → HS → (Sig → Fr → HS → Prop) → Prop
  | .skip, fr, s, K => K .normal fr s
  | .label _, fr, s, K => K .normal fr s
  | .region _ ops false, fr, s, K => wpOps P lk sz ops.toList ops.toList fr s (K .normal)
  | .region _ ops true, fr, s, K => opt (planA ops) fun pl => wpDraw P lk sz ops.toList ops.toList pl 0 [] fr s (K .normal)
  | .seq a b, fr, s, K => wpC P lk sz a fr s fun g f t => match g with | .normal => wpC P lk sz b f t K | .exit i => K (.exit i) f t | .ret => K .ret f t
  | .cond c a b, fr, s, K => opt (opdA P.globals.size fr c) fun v => match v with | .bool t => (match t with | true => wpC P lk sz a fr s K | false => wpC P lk sz b fr s K) | _ => False
  | .block id c, fr, s, K => wpC P lk sz c fr s fun g f t => match g with | .exit i => if i = id then K .normal f t else K (.exit i) f t | .normal => K .normal f t | .ret => K .ret f t
  | .loop c, fr, s, K => wpLoop P lk sz c fr s K
  | .exit id, fr, s, K => K (.exit id) fr s
  | .ret, fr, s, K => K .ret fr s
  | .rangeFunc f ps assign body, fr, s, K => opt (opdA P.globals.size fr f) fun fv =>
    (match fv with
      | .func (.func g) fi ca => wpF P lk g (fi.toList ++ [Value.func (Fn.yield s.nx) #[] #[]] ++ ca.toList)
          { hp := s.hp.put s.nx (some (.loop { fr, sz, params := ps, assign, body, state := .ready, pending := none })), nx := s.nx + 1 } fun _ s2 => opt (rfEnd fr s.nx s2) fun r => K r.1 r.2.1 r.2.2
      | _ => False)
  | _, _, _, _ => False

/-! ### Soundness -/
theorem wpF.mono {f : FuncId} {args : List Value} {s : HS} {K K' : Value → HS → Prop} (h : wpF P lk f args s K) (hk : ∀ v s', K v s' → K' v s') : wpF P lk f args s K' := by
  obtain ⟨n, v, s', h1, h2⟩ := h; exact ⟨n, v, s', h1, hk v s' h2⟩

theorem wpCall_ok {f : Value} {args : List Value} {s : HS} {K : Value → HS → Prop} (h : wpCall P lk f args s K) : ∃ n v s', callA (ev P n) lk f args s = some (v, s') ∧ K v s' := by
  unfold wpCall at h
  split at h
  · exact h
  · obtain ⟨h1, h2, n, v, s', h3, h4⟩ := h
    exact ⟨n, v, s', by unfold callA; simp only; rw [if_pos ⟨h1, h2⟩]; exact h3, h4⟩
  · cases h

theorem wpOp_ok {fr : Fr} {s : HS} {o : Oper} {K : Value → HS → Prop} (h : wpOp P lk fr s o K) : ∃ n v s', opA P (ev P n) lk fr s o = some (v, s') ∧ K v s' := by
  unfold wpOp at h
  split at h
  · rename_i f args ats ho
    obtain ⟨as, h1, h2⟩ := opt_inv h
    obtain ⟨fv, h3, h4⟩ := opt_inv h2
    obtain ⟨n, v, s', h5, h6⟩ := wpCall_ok h4
    refine ⟨n, v, s', ?_, h6⟩
    unfold opA
    rw [ho]; simp only [h1, Option.bind_some, h3]; exact h5
  · obtain ⟨⟨v, s'⟩, h1, h2⟩ := opt_inv h
    exact ⟨0, v, s', h1, h2⟩

theorem wpStep_ok {ops : List Oper} {fr : Fr} {s : HS} {o : Oper} {K : Fr → HS → Prop} (h : wpStep P lk sz ops fr s o K) : ∃ n f t, stepA P (ev P n) lk sz ops fr s o = some (f, t) ∧ K f t := by
  obtain ⟨w, h1, h2⟩ := opt_inv h
  cases w with
  | true =>
    obtain ⟨n, v, s', h3, h4⟩ := wpOp_ok h2
    obtain ⟨f, h5, h6⟩ := opt_inv h4
    refine ⟨n, f, s', ?_, h6⟩
    unfold stepA
    rw [h1]; simp only [Option.bind_some, if_true, h3, h5, Option.map_some]
  | false =>
    obtain ⟨f, h5, h6⟩ := opt_inv h2
    refine ⟨0, f, s, ?_, h6⟩
    unfold stepA
    rw [h1]; simp only [Option.bind_some, Bool.false_eq_true, if_false, h5, Option.map_some]

theorem le_max {n m : Nat} : n ≤ max n m ∧ m ≤ max n m := ⟨Nat.le_max_left _ _, Nat.le_max_right _ _⟩

theorem wpOps_ok {all : List Oper} {K : Fr → HS → Prop} : ∀ {ops : List Oper} {fr : Fr} {s : HS}, wpOps P lk sz all ops fr s K → ∃ n f t, opsA P (ev P n) lk sz all ops fr s = some (f, t) ∧ K f t := by
  intro ops
  induction ops with
  | nil => intro fr s h; exact ⟨0, fr, s, rfl, h⟩
  | cons o os ih =>
    intro fr s h
    obtain ⟨n, f, t, h1, h2⟩ := wpStep_ok h
    obtain ⟨m, f', t', h3, h4⟩ := ih h2
    refine ⟨max n m, f', t', ?_, h4⟩
    simp only [opsA]
    rw [stepA_le (ev_le P le_max.1) (Nat.le_refl _) h1]
    exact opsA_le (ev_le P le_max.2) (Nat.le_refl _) h3

theorem bind_some_of {α β : Type} {x : Option α} {f : α → Option β} {a : α} {b : Option β} (h : x = some a) (h2 : f a = b) : x.bind f = b := by rw [h]; exact h2

theorem wpDraw_ok {all : List Oper} {K : Fr → HS → Prop} : ∀ {ops : List Oper} {ps : List PlanRow} {k : Nat} {made : List (Nat × Nat × Nat)} {fr : Fr} {s : HS},
    wpDraw P lk sz all ops ps k made fr s K → ∃ n f t, drawA P (ev P n) lk sz all ops ps k made fr s = some (f, t) ∧ K f t := by
  intro ops
  induction ops with
  | nil =>
    intro ps k made fr s h
    cases ps with
    | nil => exact ⟨0, fr, s, rfl, h⟩
    | cons p ps => cases h
  | cons o os ih =>
    intro ps k made fr s h
    cases ps with
    | nil => cases h
    | cons p ps =>
      obtain ⟨n, f, t, h1, h2'⟩ := wpStep_ok h
      obtain ⟨made', hn, h2⟩ := opt_inv h2'
      obtain ⟨m, f', t', h3, h4⟩ := ih h2
      refine ⟨max n m, f', t', ?_, h4⟩
      rw [drawA_cons]
      refine bind_some_of (stepA_le (ev_le P le_max.1) (Nat.le_refl _) h1) ?_
      simp only [unh_nx]
      rw [hn]
      exact drawA_le (ev_le P le_max.2) (Nat.le_refl _) h3

theorem wpC_ok : ∀ {c : Code} {fr : Fr} {s : HS} {K : Sig → Fr → HS → Prop}, wpC P lk sz c fr s K → ∃ n g f t, codeA P (ev P n) lk sz c fr s = some (g, f, t) ∧ K g f t := by
  intro c
  induction c with
  | skip => intro fr s K h; exact ⟨0, _, _, _, rfl, h⟩
  | label l => intro fr s K h; exact ⟨0, _, _, _, rfl, h⟩
  | region id ops draw =>
    intro fr s K h
    cases draw with
    | false =>
      obtain ⟨n, f, t, h1, h2⟩ := wpOps_ok h
      exact ⟨n, _, f, t, by simp only [codeA]; rw [h1]; rfl, h2⟩
    | true =>
      obtain ⟨pl, h0, h⟩ := opt_inv h
      obtain ⟨n, f, t, h1, h2⟩ := wpDraw_ok h
      exact ⟨n, _, f, t, by simp only [codeA]; rw [h0]; simp only [Option.bind_some]; rw [h1]; rfl, h2⟩
  | seq x y ihx ihy =>
    intro fr s K h
    obtain ⟨n, g, f, t, h1, h2⟩ := ihx h
    cases g with
    | normal =>
      obtain ⟨m, g', f', t', h3, h4⟩ := ihy h2
      refine ⟨max n m, g', f', t', ?_, h4⟩
      simp only [codeA]
      rw [codeA_le (ev_le P le_max.1) (Nat.le_refl _) h1]
      exact codeA_le (ev_le P le_max.2) (Nat.le_refl _) h3
    | exit i => exact ⟨n, _, _, _, by simp only [codeA]; rw [h1]; rfl, h2⟩
    | ret => exact ⟨n, _, _, _, by simp only [codeA]; rw [h1]; rfl, h2⟩
  | cond c x y ihx ihy =>
    intro fr s K h
    obtain ⟨v, h1, h2⟩ := opt_inv h
    split at h2
    · split at h2
      · obtain ⟨n, g, f, t, h3, h4⟩ := ihx h2
        exact ⟨n, g, f, t, by simp only [codeA]; rw [h1]; exact h3, h4⟩
      · obtain ⟨n, g, f, t, h3, h4⟩ := ihy h2
        exact ⟨n, g, f, t, by simp only [codeA]; rw [h1]; exact h3, h4⟩
    · cases h2
  | block id c ih =>
    intro fr s K h
    obtain ⟨n, g, f, t, h1, h2⟩ := ih h
    cases g with
    | normal => exact ⟨n, _, _, _, by simp only [codeA]; rw [h1]; rfl, h2⟩
    | ret => exact ⟨n, _, _, _, by simp only [codeA]; rw [h1]; rfl, h2⟩
    | exit i =>
      simp only at h2
      split at h2
      · rename_i hi; exact ⟨n, _, _, _, by simp only [codeA]; rw [h1]; simp only [Option.map_some]; rw [if_pos hi], h2⟩
      · rename_i hi; exact ⟨n, _, _, _, by simp only [codeA]; rw [h1]; simp only [Option.map_some]; rw [if_neg hi], h2⟩
  | loop c ih => intro fr s K h; exact h
  | rangeFunc f ps assign body ih1 ih2 =>
    intro fr s K h
    obtain ⟨fv, h1, h2⟩ := opt_inv h
    split at h2
    · obtain ⟨n, v, s2, h3, h4⟩ := h2
      obtain ⟨⟨g, f', t⟩, h5, h6⟩ := opt_inv h4
      refine ⟨n, g, f', t, ?_, h6⟩
      simp only [codeA]
      rw [h1]; simp only [Option.bind_some]; rw [h3]; exact h5
    · cases h2
  | exit id => intro fr s K h; exact ⟨0, _, _, _, rfl, h⟩
  | scope c ih => intro fr s K h; cases h
  | goto l => intro fr s K h; cases h
  | ret => intro fr s K h; exact ⟨0, _, _, _, rfl, h⟩
  | refuse y => intro fr s K h; cases h
end Go.Ev
