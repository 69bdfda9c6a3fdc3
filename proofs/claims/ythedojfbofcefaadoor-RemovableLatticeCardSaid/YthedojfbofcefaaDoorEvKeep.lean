import Derived.Test.YthedojfbofcefaaDoorEvLe
/- The evaluator with known answers: a call without arguments that answers a truth in an empty memory is answered so everywhere. -/
namespace Go.Ev
open Go
variable {P : Program}

def plainO : AObj → Bool
  | .cells _ _ cs => cs.all (plainN 0)
  | _ => false
/-- The blocks of the program's variables that hold no addresses. -/
def lowB (s : HS) (i : Nat) : Option AObj := match s.hp.get i with | some o => bif plainO o then some o else none | none => none
def low (P : Program) (s : HS) : HS := ⟨(List.range P.globals.size).foldl (fun h i => h.put i (lowB s i)) .nil, P.globals.size⟩

theorem lowP_get (s : HS) (id : Nat) : (low P s).hp.get id = if id < P.globals.size then lowB s id else none := by
  unfold low
  have key : ∀ n, ((List.range n).foldl (fun h i => h.put i (lowB s i)) (.nil : T AObj)).get id = if id < n then lowB s id else none := by
    intro n
    induction n with
    | zero => rfl
    | succ n ih =>
      rw [List.range_succ, List.foldl_append, List.foldl_cons, List.foldl_nil, T.get_put, ih]
      by_cases h : id = n
      · rw [if_pos h, if_pos (by omega), h]
      · rw [if_neg h]
        by_cases h2 : id < n
        · rw [if_pos h2, if_pos (by omega)]
        · rw [if_neg h2, if_neg (by omega)]
  exact key _

theorem lowB_inv {s : HS} {i : Nat} {o : AObj} (h : lowB s i = some o) : s.hp.get i = some o ∧ plainO o = true := by
  unfold lowB at h
  split at h
  · rename_i o' ho
    cases hp : plainO o' with
    | true => rw [hp] at h; cases h; exact ⟨ho, hp⟩
    | false => rw [hp] at h; cases h
  · cases h

theorem VR.plain0 {φ φ' : Inj} {v v' : Value} (h : VR φ v v') (hp : plainN 0 v = true) : VR φ' v v' := by
  cases h <;> first | (constructor; done) | (simp [plainN] at hp; done)

def ClosedB (P : Program) (f : FuncId) (h0 : HS) (b : Bool) : Prop := ∃ n s', (ev0 P n).call P.globals.size f [] h0 = some (.bool b, s')

open Classical in
/-- The known answers. -/
noncomputable def orc (P : Program) (f : FuncId) (args : List Value) (s : HS) : Option Bool :=
  if h : args = [] ∧ ∃ b, ClosedB P f (low P s) b then some (Classical.choose h.2) else none

theorem orc_spec {f : FuncId} {args : List Value} {s : HS} {b : Bool} (h : orc P f args s = some b) : args = [] ∧ ClosedB P f (low P s) b := by
  unfold orc at h
  split at h
  · rename_i hc; cases h; exact ⟨hc.1, Classical.choose_spec hc.2⟩
  · cases h

theorem closed_uniq {f : FuncId} {h0 : HS} {b c : Bool} (h : ClosedB P f h0 b) (k : ClosedB P f h0 c) : b = c := by
  obtain ⟨n, s1, h1⟩ := h
  obtain ⟨m, s2, h2⟩ := k
  have g1 := (ev0_le P (Nat.le_max_left n m)).call (Nat.le_refl _) h1
  have g2 := (ev0_le P (Nat.le_max_right n m)).call (Nat.le_refl _) h2
  rw [g1] at g2
  cases g2; rfl

theorem orc_of {f : FuncId} {s : HS} {b : Bool} (h : ClosedB P f (low P s) b) : orc P f [] s = some b := by
  unfold orc
  have hc : ([] : List Value) = [] ∧ ∃ b, ClosedB P f (low P s) b := ⟨rfl, b, h⟩
  rw [dif_pos hc]
  rw [closed_uniq (Classical.choose_spec hc.2) h]

theorem orc_cons {f : FuncId} {a : Value} {args : List Value} {s : HS} : orc P f (a :: args) s = none := by
  unfold orc
  rw [dif_neg (by rintro ⟨h, _⟩; cases h)]

/-- The form of a sort: a slice, a function, no result. -/
def sortish (fn : Func) : Bool := fn.results.isEmpty && (fn.params.size == 2 && fn.nfree == 0)
def isSort (P : Program) (f : FuncId) : Bool := match P.funcs[f]? with | some fn => sortish fn | none => false

/-- Sorts are answered whole, if at all. -/
class Sorts (P : Program) where
  ans : Nat → FuncId → List Value → HS → Option (Value × HS)
  mono : ∀ {lk f args s v s'}, ans lk f args s = some (v, s') → s.nx ≤ s'.nx
  ab : ∀ {lk f args s v s'}, lk ≤ s.nx → ans lk f args s = some (v, s') → Ab lk s s'
  le : ∀ {lk lk' f args s r}, lk' ≤ lk → ans lk f args s = some r → ans lk' f args s = some r
  ok : ∀ {lk f args s v s'}, ans lk f args s = some (v, s') → ∀ {φ w} {args' : List Value}, HR P φ s w → LR φ args args' → lk ≤ s.nx → Fresh φ s.nx s'.nx → s.nx ≤ s'.nx ∧
    (callFunc f args'.toArray).run P w = .ok (.enter f args'.toArray) w ∧ ∀ n ro, CallsIn (Fn ro) n P f args'.toArray w (CPost P φ lk s w v s')

/-- None is. -/
abbrev Sorts.no (P : Program) : Sorts P where
  ans := fun _ _ _ _ => none
  mono := fun h => by cases h
  ab := fun _ h => by cases h
  le := fun _ h => by cases h
  ok := fun h => by cases h

noncomputable def withO (P : Program) [Sorts P] (R : Rec) : Rec :=
  { R with call := fun lk f ars s => match orc P f ars s with | some b => some (Value.bool b, s) | none => bif isSort P f then Sorts.ans (P := P) lk f ars s else R.call lk f ars s }

/-- The evaluator. -/
noncomputable def ev (P : Program) [Sorts P] : Nat → Rec
  | 0 => { loop := fun _ _ _ _ _ => none, call := fun _ _ _ _ => none, round := fun _ _ _ _ => none }
  | n + 1 => withO P (nextR P (ev P n))

section
variable [Sorts P]
theorem withO_mono {R : Rec} (h : MonoR R) : MonoR (withO P R) := by
  refine ⟨fun {lk f args s v s'} g => ?_, fun g => h.round g, fun g => h.loop g⟩
  change (match orc P f args s with | some b => some (Value.bool b, s) | none => bif isSort P f then Sorts.ans (P := P) lk f args s else R.call lk f args s) = _ at g
  split at g
  · cases g; exact Nat.le_refl _
  · cases hc : isSort P f with
    | true => rw [hc] at g; exact Sorts.mono g
    | false => rw [hc] at g; exact h.call g
theorem withO_ab {R : Rec} (h : AbR R) : AbR (withO P R) := by
  refine ⟨fun {lk f args s v s'} hlk g => ?_, fun hlk g => h.round hlk g, fun hlk g => h.loop hlk g⟩
  change (match orc P f args s with | some b => some (Value.bool b, s) | none => bif isSort P f then Sorts.ans (P := P) lk f args s else R.call lk f args s) = _ at g
  split at g
  · cases g; exact Ab.refl _ _
  · cases hc : isSort P f with
    | true => rw [hc] at g; exact Sorts.ab hlk g
    | false => rw [hc] at g; exact h.call hlk g
theorem withO_le {R R' : Rec} (h : RLe R R') : RLe (withO P R) (withO P R') := by
  refine ⟨fun {lk lk' f args s r} hl g => ?_, fun hl g => h.round hl g, fun hl g => h.loop hl g⟩
  change (match orc P f args s with | some b => some (Value.bool b, s) | none => bif isSort P f then Sorts.ans (P := P) lk f args s else R.call lk f args s) = _ at g
  show (match orc P f args s with | some b => some (Value.bool b, s) | none => bif isSort P f then Sorts.ans (P := P) lk' f args s else R'.call lk' f args s) = _
  split at g
  · exact g
  · cases hc : isSort P f with
    | true => rw [hc] at g; exact Sorts.le hl g
    | false => rw [hc] at g; exact h.call hl g

theorem ev_mono (P : Program) [Sorts P] : ∀ n, MonoR (ev P n) := by
  intro n
  induction n with
  | zero => exact ⟨fun h => (by cases h), fun h => (by cases h), fun h => (by cases h)⟩
  | succ n ih => exact withO_mono (nextR_mono ih)
theorem ev_ab (P : Program) [Sorts P] : ∀ n, AbR (ev P n) := by
  intro n
  induction n with
  | zero => exact ⟨fun _ h => (by cases h), fun _ h => (by cases h), fun _ h => (by cases h)⟩
  | succ n ih => exact withO_ab (nextR_ab ih)
theorem ev_le (P : Program) [Sorts P] : ∀ {n m : Nat}, n ≤ m → RLe (ev P n) (ev P m) := by
  intro n
  induction n with
  | zero => intro m _; exact ⟨fun _ h => (by cases h), fun _ h => (by cases h), fun _ h => (by cases h)⟩
  | succ n ih =>
    intro m hm
    cases m with
    | zero => omega
    | succ m => exact withO_le (nextR_le (ih (m := m) (by omega)))
end

/-- A closed call, in whatever world. -/
theorem closed_ok (hmix : P.follows .mixedOrders = true) {f : FuncId} {b : Bool} {lk : Nat} {φ : Inj} {s : HS} {w : World} {args' : List Value} (h : ClosedB P f (low P s) b) (H : HR P φ s w) (hl : LR φ [] args') :
    s.nx ≤ s.nx ∧ (callFunc f args'.toArray).run P w = .ok (.enter f args'.toArray) w ∧ ∀ n ro, CallsIn (Fn ro) n P f args'.toArray w (CPost P φ lk s w (.bool b) s) := by
  obtain ⟨n, s', h1⟩ := h
  have hnil : args' = [] := List.eq_nil_of_length_eq_zero (by have := hl.1; simpa using this.symm)
  subst hnil
  let φ0 : Inj := fun id => if id < P.globals.size then φ id else none
  have e0 : ∀ id, id < P.globals.size → φ0 id = φ id := fun id h => if_pos h
  have inv : ∀ id o, (low P s).hp.get id = some o → id < P.globals.size ∧ s.hp.get id = some o ∧ plainO o = true := fun id o h => by
    rw [lowP_get] at h
    split at h
    · rename_i hlt; exact ⟨hlt, lowB_inv h⟩
    · cases h
  have h0 : HR P φ0 (low P s) w := by
    refine ⟨fun id o e => ?_, fun i j oi oj mi mj a b h3 h4 hne hwr => ?_, fun id o e => (inv id o e).1, fun g hg => ?_, Nat.le_refl _⟩
    · obtain ⟨h2, h3, h4⟩ := inv id o e
      obtain ⟨im, h5, h6⟩ := H.obj id o h3
      refine ⟨im, by rw [e0 id h2]; exact h5, ?_⟩
      cases o with
      | cells wr e cs =>
        obtain ⟨g0, c, fz, g1, g2, g3, g4, g5⟩ := h6
        refine ⟨g0, c, fz, g1, g2, g3, fun i v hv => ?_, g5⟩
        obtain ⟨v', a, b⟩ := g4 i v hv
        exact ⟨v', a, b.plain0 (List.all_eq_true.1 h4 v (List.mem_of_getElem? hv))⟩
      | map es => cases h4
      | loop L => cases h4
    · obtain ⟨a1, a2, _⟩ := inv i oi a
      obtain ⟨b1, b2, _⟩ := inv j oj b
      rw [e0 i a1] at h3
      rw [e0 j b1] at h4
      exact H.inj i j oi oj mi mj a2 b2 h3 h4 hne hwr
    · obtain ⟨im, h2, h3⟩ := H.glob g hg
      exact ⟨im, by rw [e0 g hg]; exact h2, h3⟩
  obtain ⟨_, h2, h3⟩ := (ev0_ok P hmix n).call h1 (φ := φ0) (w := w) (args' := []) h0 (LR.nil _) (Nat.le_refl _) (fun id hid _ => by
    show (if id < _ then φ id else none) = none
    exact if_neg (Nat.not_lt.2 hid))
  refine ⟨Nat.le_refl _, h2, fun n ro => (h3 n ro).mono fun e w' hp => ?_⟩
  obtain ⟨v', φ', rfl, hv, p⟩ := hp
  cases hv
  have still : ∀ r, r < w.heap.size → w'.heap[r]? = w.heap[r]? := fun r hr => p.frame r hr fun id im h3 h4 _ => by
    obtain ⟨o, ho, _⟩ := h4
    have := (inv id o ho).1; omega
  refine ⟨.bool b, φ, rfl, .bool b, Sub.refl _, fun _ _ => rfl, ⟨fun id o h4 => ?_, H.inj, H.bnd, H.glob, H.nxg⟩, Nat.le_refl _, fun _ _ h4 => h4, fun _ _ h4 => h4, fun _ _ => rfl, fun _ L h4 => ⟨L, h4⟩, p.os, p.tape, p.output, p.drawn, p.size, fun r hr _ => still r hr, fun id im h4 h5 _ => ?_⟩
  · obtain ⟨im, h5, h6⟩ := H.obj id o h4
    exact ⟨im, h5, by rw [still _ (HR.lt H h4 h5)]; exact h6⟩
  · obtain ⟨o, ho⟩ := Option.ne_none_iff_exists'.1 h5
    have := H.bnd id o ho; omega

theorem ev_ok (P : Program) [Sorts P] (hmix : P.follows .mixedOrders = true) : ∀ n, RecOK P (ev P n) := by
  intro n
  induction n with
  | zero => exact ⟨fun h => (by cases h), fun h => (by cases h), fun h => (by cases h)⟩
  | succ n ih =>
    have hm := ev_mono P n
    have hab := ev_ab P n
    refine ⟨fun {lk f args s v s'} h {φ w args'} H hl hlk hfr => ?_, fun h => roundFA_sound ih hm hab hmix h, fun h => loopFA_sound ih hm hab hmix h⟩
    change (match orc P f args s with | some b => some (Value.bool b, s) | none => bif isSort P f then Sorts.ans (P := P) lk f args s else callFA P (ev P n) lk f args s) = _ at h
    split at h
    · rename_i b ho
      cases h
      obtain ⟨rfl, hc⟩ := orc_spec ho
      exact closed_ok hmix hc H hl
    · cases hc : isSort P f with
      | true => rw [hc] at h; exact Sorts.ok h H hl hlk hfr
      | false => rw [hc] at h; exact callFA_sound ih hm hab hmix h H hl hlk hfr

/-- **WHAT THE EVALUATOR ANSWERS, THE CALL ANSWERS.** -/
theorem ev_calls (P : Program) [Sorts P] (hmix : P.follows .mixedOrders = true) {n lk : Nat} {f : FuncId} {args : List Value} {s : HS} {v : Value} {s' : HS} (h : (ev P n).call lk f args s = some (v, s'))
    {φ : Inj} {w : World} {args' : List Value} (H : HR P φ s w) (hl : LR φ args args') (hlk : lk ≤ s.nx) (hfr : Fresh φ s.nx s'.nx) :
    Calls P f args'.toArray w (CPost P φ lk s w v s') :=
  callsIn_wide.1 (((ev_ok P hmix n).call h H hl hlk hfr).2.2 0 none)
end Go.Ev

/- What a run comes to, as a condition on the state ahead of it: no fuel in sight. -/
namespace Go.Ev
open Go
variable {P : Program} [Sorts P] {lk sz : Nat}

def opt {α : Type} : Option α → (α → Prop) → Prop
  | some a, k => k a
  | none, _ => False
theorem opt_some {α : Type} (a : α) (k : α → Prop) : opt (some a) k = k a := rfl
theorem opt_of {α : Type} {x : Option α} {a : α} {k : α → Prop} (h : x = some a) (hk : k a) : opt x k := by rw [h]; exact hk
theorem opt_inv {α : Type} {x : Option α} {k : α → Prop} (h : opt x k) : ∃ a, x = some a ∧ k a := by
  cases x with
  | none => cases h
  | some a => exact ⟨a, rfl, h⟩
theorem opt_mono {α : Type} {x : Option α} {k k' : α → Prop} (h : opt x k) (hk : ∀ a, k a → k' a) : opt x k' := by
  obtain ⟨a, rfl, h⟩ := opt_inv h; exact hk a h

/-- A function that is called. -/
def wpF (P : Program) [Sorts P] (lk : Nat) (f : FuncId) (args : List Value) (s : HS) (K : Value → HS → Prop) : Prop := ∃ n v s', (ev P n).call lk f args s = some (v, s') ∧ K v s'
def wpRound (P : Program) [Sorts P] (lk l : Nat) (args : List Value) (s : HS) (K : Value → HS → Prop) : Prop := ∃ n v s', (ev P n).round lk l args s = some (v, s') ∧ K v s'
def wpLoop (P : Program) [Sorts P] (lk sz : Nat) (c : Code) (fr : Fr) (s : HS) (K : Sig → Fr → HS → Prop) : Prop := ∃ n g f t, (ev P n).loop lk sz c fr s = some (g, f, t) ∧ K g f t

def wpCall (P : Program) [Sorts P] (lk : Nat) (f : Value) (args : List Value) (s : HS) (K : Value → HS → Prop) : Prop :=
  match f with
  | .func (.func g) first captured => wpF P lk g (first.toList ++ args ++ captured.toList) s K
  | .func (.yield l) first captured => first.toList = [] ∧ captured.toList = [] ∧ wpRound P lk l args s K
  | _ => False

def wpOp (P : Program) [Sorts P] (lk : Nat) (fr : Fr) (s : HS) (o : Oper) (K : Value → HS → Prop) : Prop :=
  match o.op with
  | .call ⟨.value f, args, _⟩ => opt (omap (opdA P.globals.size fr) args.toList) fun args => opt (opdA P.globals.size fr f) fun f => wpCall P lk f args s K
  | _ => opt (opA P (ev P 0) lk fr s o) fun p => K p.1 p.2

def wpStep (P : Program) [Sorts P] (lk sz : Nat) (ops : List Oper) (fr : Fr) (s : HS) (o : Oper) (K : Fr → HS → Prop) : Prop :=
  opt (wantedA ops fr o) fun w => match w with
    | true => wpOp P lk fr s o fun v s' => opt (setA sz fr o.dst v) fun fr' => K fr' s'
    | false => opt (setA sz fr o.dst undef) fun fr' => K fr' s

def wpOps (P : Program) [Sorts P] (lk sz : Nat) (all : List Oper) : List Oper → Fr → HS → (Fr → HS → Prop) → Prop
  | [], fr, s, K => K fr s
  | o :: os, fr, s, K => wpStep P lk sz all fr s o fun fr' s' => wpOps P lk sz all os fr' s' K

def wpDraw (P : Program) [Sorts P] (lk sz : Nat) (all : List Oper) : List Oper → List PlanRow → Nat → List (Nat × Nat × Nat) → Fr → HS → (Fr → HS → Prop) → Prop
  | o :: os, p :: ps, k, made, fr, s, K =>
    wpStep P (if p.bar then lk else s.nx) sz all fr (hid s ((made.filter fun m => p.beside.contains m.1).map (·.2))) o fun fr' s1 =>
      opt (noteA P.globals.size p k fr o (if s.nx < s1.nx then (k, s.nx, s1.nx) :: made else made)) fun made' => wpDraw P lk sz all os ps (k + 1) made' fr' (unh s s1 ((made.filter fun m => p.beside.contains m.1).map (·.2))) K
  | [], [], _, _, fr, s, K => K fr s
  | _, _, _, _, _, _, _ => False

def rfEnd (fr : Fr) (nx : Nat) (s2 : HS) : Option (Sig × Fr × HS) :=
    match s2.hp.get nx with
    | some (.loop L) =>
      let s3 : HS := { s2 with hp := s2.hp.put nx none }
      match L.state, L.pending with
      | .busy, _ => none
      | _, none => some (.normal, fr, s3)
      | _, some .ret => some (.ret, fr, s3)
      | _, some (.exit id) => some (.exit id, fr, s3)
      | _, _ => none
    | _ => none

def wpC (P : Program) [Sorts P] (lk sz : Nat) : Code → Fr → HS → (Sig → Fr → HS → Prop) → Prop
  | .skip, fr, s, K => K .normal fr s
  | .label _, fr, s, K => K .normal fr s
  | .region _ ops false, fr, s, K => wpOps P lk sz ops.toList ops.toList fr s (K .normal)
  | .region _ ops true, fr, s, K => opt (planA ops) fun pl => wpDraw P lk sz ops.toList ops.toList pl 0 [] fr s (K .normal)
  | .seq a b, fr, s, K => wpC P lk sz a fr s fun g f t => match g with | .normal => wpC P lk sz b f t K | .exit i => K (.exit i) f t | .ret => K .ret f t
  | .cond c a b, fr, s, K => opt (opdA P.globals.size fr c) fun v => match v with | .bool t => (match t with | true => wpC P lk sz a fr s K | false => wpC P lk sz b fr s K) | _ => False
  | .block id c, fr, s, K => wpC P lk sz c fr s fun g f t => match g with | .exit i => if i = id then K .normal f t else K (.exit i) f t | .normal => K .normal f t | .ret => K .ret f t
  | .loop c, fr, s, K => wpLoop P lk sz c fr s K
  | .exit id, fr, s, K => K (.exit id) fr s
  | .ret, fr, s, K => K .ret fr s
  | .rangeFunc f ps assign body, fr, s, K => opt (opdA P.globals.size fr f) fun fv =>
    (match fv with
      | .func (.func g) fi ca => wpF P lk g (fi.toList ++ [Value.func (Fn.yield s.nx) #[] #[]] ++ ca.toList)
          { hp := s.hp.put s.nx (some (.loop { fr, sz, params := ps, assign, body, state := .ready, pending := none })), nx := s.nx + 1 } fun _ s2 => opt (rfEnd fr s.nx s2) fun r => K r.1 r.2.1 r.2.2
      | _ => False)
  | _, _, _, _ => False

/-! ### Soundness -/
theorem wpF.mono {f : FuncId} {args : List Value} {s : HS} {K K' : Value → HS → Prop} (h : wpF P lk f args s K) (hk : ∀ v s', K v s' → K' v s') : wpF P lk f args s K' := by
  obtain ⟨n, v, s', h1, h2⟩ := h; exact ⟨n, v, s', h1, hk v s' h2⟩

theorem wpCall_ok {f : Value} {args : List Value} {s : HS} {K : Value → HS → Prop} (h : wpCall P lk f args s K) : ∃ n v s', callA (ev P n) lk f args s = some (v, s') ∧ K v s' := by
  unfold wpCall at h
  split at h
  · exact h
  · obtain ⟨h1, h2, n, v, s', h3, h4⟩ := h
    exact ⟨n, v, s', by unfold callA; simp only; rw [if_pos ⟨h1, h2⟩]; exact h3, h4⟩
  · cases h

theorem wpOp_ok {fr : Fr} {s : HS} {o : Oper} {K : Value → HS → Prop} (h : wpOp P lk fr s o K) : ∃ n v s', opA P (ev P n) lk fr s o = some (v, s') ∧ K v s' := by
  unfold wpOp at h
  split at h
  · rename_i f args ats ho
    obtain ⟨ars, h1, h2⟩ := opt_inv h
    obtain ⟨fv, h3, h4⟩ := opt_inv h2
    obtain ⟨n, v, s', h5, h6⟩ := wpCall_ok h4
    refine ⟨n, v, s', ?_, h6⟩
    unfold opA
    rw [ho]; simp only [h1, Option.bind_some, h3]; exact h5
  · obtain ⟨⟨v, s'⟩, h1, h2⟩ := opt_inv h
    exact ⟨0, v, s', h1, h2⟩

theorem wpStep_ok {ops : List Oper} {fr : Fr} {s : HS} {o : Oper} {K : Fr → HS → Prop} (h : wpStep P lk sz ops fr s o K) : ∃ n f t, stepA P (ev P n) lk sz ops fr s o = some (f, t) ∧ K f t := by
  obtain ⟨w, h1, h2⟩ := opt_inv h
  cases w with
  | true =>
    obtain ⟨n, v, s', h3, h4⟩ := wpOp_ok h2
    obtain ⟨f, h5, h6⟩ := opt_inv h4
    refine ⟨n, f, s', ?_, h6⟩
    unfold stepA
    rw [h1]; simp only [Option.bind_some, if_true, h3, h5, Option.map_some]
  | false =>
    obtain ⟨f, h5, h6⟩ := opt_inv h2
    refine ⟨0, f, s, ?_, h6⟩
    unfold stepA
    rw [h1]; simp only [Option.bind_some, Bool.false_eq_true, if_false, h5, Option.map_some]

theorem le_max {n m : Nat} : n ≤ max n m ∧ m ≤ max n m := ⟨Nat.le_max_left _ _, Nat.le_max_right _ _⟩

theorem wpOps_ok {all : List Oper} {K : Fr → HS → Prop} : ∀ {ops : List Oper} {fr : Fr} {s : HS}, wpOps P lk sz all ops fr s K → ∃ n f t, opsA P (ev P n) lk sz all ops fr s = some (f, t) ∧ K f t := by
  intro ops
  induction ops with
  | nil => intro fr s h; exact ⟨0, fr, s, rfl, h⟩
  | cons o os ih =>
    intro fr s h
    obtain ⟨n, f, t, h1, h2⟩ := wpStep_ok h
    obtain ⟨m, f', t', h3, h4⟩ := ih h2
    refine ⟨max n m, f', t', ?_, h4⟩
    simp only [opsA]
    rw [stepA_le (ev_le P le_max.1) (Nat.le_refl _) h1]
    exact opsA_le (ev_le P le_max.2) (Nat.le_refl _) h3

theorem bind_some_of {α β : Type} {x : Option α} {f : α → Option β} {a : α} {b : Option β} (h : x = some a) (h2 : f a = b) : x.bind f = b := by rw [h]; exact h2

theorem wpDraw_ok {all : List Oper} {K : Fr → HS → Prop} : ∀ {ops : List Oper} {ps : List PlanRow} {k : Nat} {made : List (Nat × Nat × Nat)} {fr : Fr} {s : HS},
    wpDraw P lk sz all ops ps k made fr s K → ∃ n f t, drawA P (ev P n) lk sz all ops ps k made fr s = some (f, t) ∧ K f t := by
  intro ops
  induction ops with
  | nil =>
    intro ps k made fr s h
    cases ps with
    | nil => exact ⟨0, fr, s, rfl, h⟩
    | cons p ps => cases h
  | cons o os ih =>
    intro ps k made fr s h
    cases ps with
    | nil => cases h
    | cons p ps =>
      obtain ⟨n, f, t, h1, h2'⟩ := wpStep_ok h
      obtain ⟨made', hn, h2⟩ := opt_inv h2'
      obtain ⟨m, f', t', h3, h4⟩ := ih h2
      refine ⟨max n m, f', t', ?_, h4⟩
      rw [drawA_cons]
      refine bind_some_of (stepA_le (ev_le P le_max.1) (Nat.le_refl _) h1) ?_
      simp only [unh_nx]
      rw [hn]
      exact drawA_le (ev_le P le_max.2) (Nat.le_refl _) h3

theorem wpC_ok : ∀ {c : Code} {fr : Fr} {s : HS} {K : Sig → Fr → HS → Prop}, wpC P lk sz c fr s K → ∃ n g f t, codeA P (ev P n) lk sz c fr s = some (g, f, t) ∧ K g f t := by
  intro c
  induction c with
  | skip => intro fr s K h; exact ⟨0, _, _, _, rfl, h⟩
  | label l => intro fr s K h; exact ⟨0, _, _, _, rfl, h⟩
  | region id ops draw =>
    intro fr s K h
    cases draw with
    | false =>
      obtain ⟨n, f, t, h1, h2⟩ := wpOps_ok h
      exact ⟨n, _, f, t, by simp only [codeA]; rw [h1]; rfl, h2⟩
    | true =>
      obtain ⟨pl, h0, h⟩ := opt_inv h
      obtain ⟨n, f, t, h1, h2⟩ := wpDraw_ok h
      exact ⟨n, _, f, t, by simp only [codeA]; rw [h0]; simp only [Option.bind_some]; rw [h1]; rfl, h2⟩
  | seq x y ihx ihy =>
    intro fr s K h
    obtain ⟨n, g, f, t, h1, h2⟩ := ihx h
    cases g with
    | normal =>
      obtain ⟨m, g', f', t', h3, h4⟩ := ihy h2
      refine ⟨max n m, g', f', t', ?_, h4⟩
      simp only [codeA]
      rw [codeA_le (ev_le P le_max.1) (Nat.le_refl _) h1]
      exact codeA_le (ev_le P le_max.2) (Nat.le_refl _) h3
    | exit i => exact ⟨n, _, _, _, by simp only [codeA]; rw [h1]; rfl, h2⟩
    | ret => exact ⟨n, _, _, _, by simp only [codeA]; rw [h1]; rfl, h2⟩
  | cond c x y ihx ihy =>
    intro fr s K h
    obtain ⟨v, h1, h2⟩ := opt_inv h
    split at h2
    · split at h2
      · obtain ⟨n, g, f, t, h3, h4⟩ := ihx h2
        exact ⟨n, g, f, t, by simp only [codeA]; rw [h1]; exact h3, h4⟩
      · obtain ⟨n, g, f, t, h3, h4⟩ := ihy h2
        exact ⟨n, g, f, t, by simp only [codeA]; rw [h1]; exact h3, h4⟩
    · cases h2
  | block id c ih =>
    intro fr s K h
    obtain ⟨n, g, f, t, h1, h2⟩ := ih h
    cases g with
    | normal => exact ⟨n, _, _, _, by simp only [codeA]; rw [h1]; rfl, h2⟩
    | ret => exact ⟨n, _, _, _, by simp only [codeA]; rw [h1]; rfl, h2⟩
    | exit i =>
      simp only at h2
      split at h2
      · rename_i hi; exact ⟨n, _, _, _, by simp only [codeA]; rw [h1]; simp only [Option.map_some]; rw [if_pos hi], h2⟩
      · rename_i hi; exact ⟨n, _, _, _, by simp only [codeA]; rw [h1]; simp only [Option.map_some]; rw [if_neg hi], h2⟩
  | loop c ih => intro fr s K h; exact h
  | rangeFunc f ps assign body ih1 ih2 =>
    intro fr s K h
    obtain ⟨fv, h1, h2⟩ := opt_inv h
    split at h2
    · obtain ⟨n, v, s2, h3, h4⟩ := h2
      obtain ⟨⟨g, f', t⟩, h5, h6⟩ := opt_inv h4
      refine ⟨n, g, f', t, ?_, h6⟩
      simp only [codeA]
      rw [h1]; simp only [Option.bind_some]; rw [h3]; exact h5
    · cases h2
  | exit id => intro fr s K h; exact ⟨0, _, _, _, rfl, h⟩
  | scope c ih => intro fr s K h; cases h
  | goto l => intro fr s K h; cases h
  | ret => intro fr s K h; exact ⟨0, _, _, _, rfl, h⟩
  | refuse y => intro fr s K h; cases h
end Go.Ev

/- Rules for loops and calls. -/
namespace Go.Ev
open Go
variable {P : Program} [Sorts P] {lk sz : Nat}

theorem Ab.lower {lk lk' : Nat} {s s' : HS} (h : lk' ≤ lk) (hl : lk ≤ s.nx) (a : Ab lk s s') : Ab lk' s s' := ⟨a.nx, fun _ id hid => a.lock hl id (by omega), a.bnd⟩
theorem Ab.get {lk : Nat} {s s' : HS} (a : Ab lk s s') (hl : lk ≤ s.nx) {id : Nat} (h : id < lk) : s'.hp.get id = s.hp.get id := a.lock hl id h

/-! ### Less is asked -/
theorem wpCall_mono {f : Value} {args : List Value} {s : HS} {K K' : Value → HS → Prop} (h : wpCall P lk f args s K) (hk : ∀ v s', K v s' → K' v s') : wpCall P lk f args s K' := by
  unfold wpCall at *
  split at h
  · exact wpF.mono h hk
  · obtain ⟨h1, h2, n, v, s', h3, h4⟩ := h; exact ⟨h1, h2, n, v, s', h3, hk _ _ h4⟩
  · cases h

theorem wpOp_mono {fr : Fr} {s : HS} {o : Oper} {K K' : Value → HS → Prop} (h : wpOp P lk fr s o K) (hk : ∀ v s', K v s' → K' v s') : wpOp P lk fr s o K' := by
  unfold wpOp at *
  split at h
  · exact opt_mono h fun ars h => opt_mono h fun f h => wpCall_mono h hk
  · exact opt_mono h fun p h => hk _ _ h

theorem wpStep_mono {ops : List Oper} {fr : Fr} {s : HS} {o : Oper} {K K' : Fr → HS → Prop} (h : wpStep P lk sz ops fr s o K) (hk : ∀ f t, K f t → K' f t) : wpStep P lk sz ops fr s o K' := by
  refine opt_mono h fun w h => ?_
  cases w with
  | true => exact wpOp_mono h fun v s' h => opt_mono h fun f h => hk _ _ h
  | false => exact opt_mono h fun f h => hk _ _ h

theorem wpOps_mono {all : List Oper} {K K' : Fr → HS → Prop} (hk : ∀ f t, K f t → K' f t) : ∀ {ops : List Oper} {fr : Fr} {s : HS}, wpOps P lk sz all ops fr s K → wpOps P lk sz all ops fr s K' := by
  intro ops
  induction ops with
  | nil => intro fr s h; exact hk _ _ h
  | cons o os ih => intro fr s h; exact wpStep_mono h fun f t h => ih h

theorem wpDraw_mono {all : List Oper} {K K' : Fr → HS → Prop} (hk : ∀ f t, K f t → K' f t) : ∀ {ops : List Oper} {ps : List PlanRow} {k : Nat} {made : List (Nat × Nat × Nat)} {fr : Fr} {s : HS},
    wpDraw P lk sz all ops ps k made fr s K → wpDraw P lk sz all ops ps k made fr s K' := by
  intro ops
  induction ops with
  | nil => intro ps k made fr s h; cases ps with | nil => exact hk _ _ h | cons p ps => cases h
  | cons o os ih => intro ps k made fr s h; cases ps with | nil => cases h | cons p ps => exact wpStep_mono h fun f t h => opt_mono h fun _ h => ih h

theorem wpC_mono : ∀ {c : Code} {fr : Fr} {s : HS} {K K' : Sig → Fr → HS → Prop}, wpC P lk sz c fr s K → (∀ g f t, K g f t → K' g f t) → wpC P lk sz c fr s K' := by
  intro c
  induction c with
  | skip => intro fr s K K' h hk; exact hk _ _ _ h
  | label l => intro fr s K K' h hk; exact hk _ _ _ h
  | region id ops draw =>
    intro fr s K K' h hk
    cases draw with
    | false => exact wpOps_mono (fun f t h => hk _ _ _ h) h
    | true => exact opt_mono h fun pl h => wpDraw_mono (fun f t h => hk _ _ _ h) h
  | seq x y ihx ihy =>
    intro fr s K K' h hk
    refine ihx h fun g f t h => ?_
    cases g with
    | normal => exact ihy h hk
    | exit i => exact hk _ _ _ h
    | ret => exact hk _ _ _ h
  | cond c x y ihx ihy =>
    intro fr s K K' h hk
    refine opt_mono h fun v h => ?_
    cases v <;> first | (cases h; done) | skip
    rename_i b
    cases b with
    | true => exact ihx h hk
    | false => exact ihy h hk
  | block id c ih =>
    intro fr s K K' h hk
    refine ih h fun g f t h => ?_
    cases g with
    | normal => exact hk _ _ _ h
    | ret => exact hk _ _ _ h
    | exit i =>
      simp only at h ⊢
      split at h
      · rename_i hi; rw [if_pos hi]; exact hk _ _ _ h
      · rename_i hi; rw [if_neg hi]; exact hk _ _ _ h
  | loop c ih => intro fr s K K' h hk; obtain ⟨n, g, f, t, h1, h2⟩ := h; exact ⟨n, g, f, t, h1, hk _ _ _ h2⟩
  | rangeFunc f ps assign body ih1 ih2 =>
    intro fr s K K' h hk
    refine opt_mono h fun v h => ?_
    split at h
    · exact wpF.mono h fun v s2 h => opt_mono h fun r h => hk _ _ _ h
    · cases h
  | exit id => intro fr s K K' h hk; exact hk _ _ _ h
  | scope c ih => intro fr s K K' h hk; cases h
  | goto l => intro fr s K K' h hk; cases h
  | ret => intro fr s K K' h hk; exact hk _ _ _ h
  | refuse y => intro fr s K K' h hk; cases h

/-! ### Loops -/
theorem wpLoop_step {c : Code} {fr : Fr} {s : HS} {K : Sig → Fr → HS → Prop}
    (h : ∃ n g f t, codeA P (ev P n) lk sz c fr s = some (g, f, t) ∧ match g with | .normal => wpLoop P lk sz c f t K | .exit i => K (.exit i) f t | .ret => K .ret f t) : wpLoop P lk sz c fr s K := by
  obtain ⟨n, g, f, t, h1, h2⟩ := h
  cases g with
  | normal =>
    obtain ⟨m, g', f', t', h3, h4⟩ := h2
    refine ⟨max n m + 1, g', f', t', ?_, h4⟩
    show loopFA P (ev P (max n m)) lk sz c fr s = _
    unfold loopFA
    rw [codeA_le (ev_le P le_max.1) (Nat.le_refl _) h1]
    exact (ev_le P le_max.2).loop (Nat.le_refl _) h3
  | exit i => exact ⟨n + 1, _, _, _, by show loopFA P (ev P n) lk sz c fr s = _; unfold loopFA; rw [h1]; rfl, h2⟩
  | ret => exact ⟨n + 1, _, _, _, by show loopFA P (ev P n) lk sz c fr s = _; unfold loopFA; rw [h1]; rfl, h2⟩

/-- What holds at the head of a loop, with a measure that falls. -/
theorem wpLoop_inv {c : Code} {K : Sig → Fr → HS → Prop} (s0 : HS) (I : Nat → Fr → HS → Prop) (hlk : lk ≤ s0.nx)
    (h : ∀ m f t, I m f t → Ab lk s0 t → wpC P lk sz c f t fun g f' t' => Ab lk s0 t' → match g with | .normal => ∃ m', m' < m ∧ I m' f' t' | .exit i => K (.exit i) f' t' | .ret => K .ret f' t') :
    ∀ m f t, I m f t → Ab lk s0 t → wpLoop P lk sz c f t K := by
  intro m
  induction m using Nat.strongRecOn with
  | _ m ih =>
    intro f t hI hA
    obtain ⟨n, g, f', t', h1, h2⟩ := wpC_ok (h m f t hI hA)
    have a := hA.trans (codeA_ab (ev_ab P n) (Nat.le_trans hlk hA.nx) h1)
    have h3 := h2 a
    refine wpLoop_step ⟨n, g, f', t', h1, ?_⟩
    cases g with
    | normal => obtain ⟨m', h4, h5⟩ := h3; exact ih m' h4 f' t' h5 a
    | exit i => exact h3
    | ret => exact h3

/-! ### Calls -/
def retK (P : Program) (rs : List ResultVar) (K : Value → HS → Prop) : Sig → Fr → HS → Prop
  | .exit _, _, _ => False
  | .normal, f, t => opt (omap (resA P f t.hp) rs) fun vs => K (packR vs) t
  | .ret, f, t => opt (omap (resA P f t.hp) rs) fun vs => K (packR vs) t

theorem wpF_ofR {f : FuncId} {fn : Func} {c : Code} {rs : List ResultVar} {a0 : Value} {ars : List Value} {args : List Value} {s : HS} {K : Value → HS → Prop} (hf : P.funcs[f]? = some fn) (hb : fn.body = some c) (hn : (fn.name == "runtime.NumGoroutine" || sortish fn) = false)
    (ha : Nat.ble args.length fn.ntmps = true) (hr : fn.results.toList = rs) (hlk : lk ≤ s.nx) (hargs : args = a0 :: ars)
    (h : wpC P lk fn.ntmps c (paramsA .nil args 0) s fun g f t => Ab lk s t → retK P rs K g f t) : wpF P lk f args s K := by
  subst hr
  obtain ⟨n, g, fr, t, h1, h2⟩ := wpC_ok h
  have h3 := h2 (codeA_ab (ev_ab P n) hlk h1)
  have hso : isSort P f = false := by
    unfold isSort
    rw [hf]
    simp only [Bool.or_eq_false_iff] at hn
    exact hn.2
  have hne : ¬ (fn.name = "runtime.NumGoroutine" ∨ fn.ntmps < args.length) := by
    rintro (e | e)
    · rw [e] at hn; simp at hn
    · have := Nat.le_of_ble_eq_true ha; omega
  cases g with
  | exit i => cases h3
  | normal =>
    obtain ⟨vs, h4, h5⟩ := opt_inv h3
    refine ⟨n + 1, _, _, ?_, h5⟩
    show (match orc P f args s with | some b => some (Value.bool b, s) | none => bif isSort P f then Sorts.ans (P := P) lk f args s else callFA P (ev P n) lk f args s) = _
    rw [show orc P f args s = none by rw [hargs]; exact orc_cons]
    show (bif isSort P f then Sorts.ans (P := P) lk f args s else callFA P (ev P n) lk f args s) = _
    rw [hso, cond_false]
    unfold callFA
    rw [hf]; simp only [hb]; rw [if_neg hne, h1]; simp only [Option.bind_some]; rw [h4]; rfl
  | ret =>
    obtain ⟨vs, h4, h5⟩ := opt_inv h3
    refine ⟨n + 1, _, _, ?_, h5⟩
    show (match orc P f args s with | some b => some (Value.bool b, s) | none => bif isSort P f then Sorts.ans (P := P) lk f args s else callFA P (ev P n) lk f args s) = _
    rw [show orc P f args s = none by rw [hargs]; exact orc_cons]
    show (bif isSort P f then Sorts.ans (P := P) lk f args s else callFA P (ev P n) lk f args s) = _
    rw [hso, cond_false]
    unfold callFA
    rw [hf]; simp only [hb]; rw [if_neg hne, h1]; simp only [Option.bind_some]; rw [h4]; rfl

theorem wpF_of {f : FuncId} {fn : Func} {c : Code} {r : ResultVar} {rs : List ResultVar} {a0 : Value} {ars : List Value} {s : HS} {K : Value → HS → Prop} (hf : P.funcs[f]? = some fn) (hb : fn.body = some c) (hn : (fn.name == "runtime.NumGoroutine" || sortish fn) = false)
    (ha : Nat.ble (a0 :: ars).length fn.ntmps = true) (hr : fn.results.toList = r :: rs) (hlk : lk ≤ s.nx)
    (h : wpC P lk fn.ntmps c (paramsA .nil (a0 :: ars) 0) s fun g f t => Ab lk s t → retK P (r :: rs) K g f t) : wpF P lk f (a0 :: ars) s K := wpF_ofR hf hb hn ha hr hlk rfl h

/-- A closed call. -/
theorem wpF_closed {f : FuncId} {b : Bool} {s : HS} {K : Value → HS → Prop} (h : ClosedB P f (low P s) b) (k : K (.bool b) s) : wpF P lk f [] s K := by
  refine ⟨1, .bool b, s, ?_, k⟩
  show (match orc P f [] s with | some b => some (Value.bool b, s) | none => bif isSort P f then Sorts.ans (P := P) lk f [] s else callFA P (ev P 0) lk f [] s) = _
  rw [orc_of h]

/-- A sort. -/
theorem wpF_sort {f : FuncId} {a0 : Value} {ars : List Value} {s s' : HS} {v : Value} {K : Value → HS → Prop} (hf : isSort P f = true) (h : Sorts.ans (P := P) lk f (a0 :: ars) s = some (v, s')) (k : K v s') : wpF P lk f (a0 :: ars) s K := by
  refine ⟨1, v, s', ?_, k⟩
  show (match orc P f (a0 :: ars) s with | some b => some (Value.bool b, s) | none => bif isSort P f then Sorts.ans (P := P) lk f (a0 :: ars) s else callFA P (ev P 0) lk f (a0 :: ars) s) = _
  rw [orc_cons]
  show (bif isSort P f then Sorts.ans (P := P) lk f (a0 :: ars) s else callFA P (ev P 0) lk f (a0 :: ars) s) = _
  rw [hf, cond_true]
  exact h

/-- A call that leaves all blocks alone, inside a run that leaves fewer alone. -/
theorem wpF.use {lk' : Nat} {f : FuncId} {args : List Value} {s : HS} {K K' : Value → HS → Prop} (h : wpF P lk' f args s K) (hl : lk ≤ lk') (hs : lk' ≤ s.nx) (hk : ∀ v s', K v s' → Ab lk' s s' → K' v s') : wpF P lk f args s K' := by
  obtain ⟨n, v, s', h1, h2⟩ := h
  exact ⟨n, v, s', (ev_le P (Nat.le_refl n)).call hl h1, hk v s' h2 ((ev_ab P n).call hs h1)⟩
end Go.Ev

/- Single steps through a region, for the tactic proofs. -/
namespace Go.Ev
open Go
variable {P : Program} [Sorts P] {lk sz : Nat} {all os : List Oper} {o : Oper} {fr fr' : Fr} {s s' : HS} {K : Fr → HS → Prop}

theorem ops_doW {v : Value} (hw : wantedA all fr o = some true) (ho : opA P (ev P 0) lk fr s o = some (v, s')) (hd : setA sz fr o.dst v = some fr') (k : wpOps P lk sz all os fr' s' K) : wpOps P lk sz all (o :: os) fr s K := by
  refine opt_of hw ?_
  simp only
  have key : opt (opA P (ev P 0) lk fr s o) (fun p => (fun v s' => opt (setA sz fr o.dst v) fun fr' => wpOps P lk sz all os fr' s' K) p.1 p.2) := by
    rw [ho]
    show opt (setA sz fr o.dst v) _
    exact opt_of hd k
  unfold wpOp
  split
  · rename_i f args ats hop
    exfalso
    rw [show o = ⟨o.dst, .call ⟨.value f, args, ats⟩, o.type, o.pos, o.after, o.guard⟩ by cases o; simp at hop ⊢; exact hop] at ho
    simp only [opA] at ho
    obtain ⟨ars, _, h2⟩ := bind_inv ho
    obtain ⟨fv, _, h4⟩ := bind_inv h2
    unfold callA at h4
    split at h4
    · cases h4
    · split at h4 <;> cases h4
    · cases h4
  · exact key

theorem ops_skip (hw : wantedA all fr o = some false) (hd : setA sz fr o.dst undef = some fr') (k : wpOps P lk sz all os fr' s K) : wpOps P lk sz all (o :: os) fr s K := by
  refine opt_of hw ?_
  exact opt_of hd k

theorem ops_callW {dst : Option Tmp} {f : Operand} {args : Array Operand} {ats : Array TypeId} {ty : TypeId} {pos : String} {after : Array Edge} {guard : Option (Nat × Bool)} {ars : List Value} {fv : Value}
    (hw : wantedA all fr ⟨dst, .call ⟨.value f, args, ats⟩, ty, pos, after, guard⟩ = some true) (ha : omap (opdA P.globals.size fr) args.toList = some ars) (hf : opdA P.globals.size fr f = some fv)
    (hc : wpCall P lk fv ars s fun v s' => opt (setA sz fr dst v) fun fr' => wpOps P lk sz all os fr' s' K) : wpOps P lk sz all (⟨dst, .call ⟨.value f, args, ats⟩, ty, pos, after, guard⟩ :: os) fr s K := by
  refine opt_of hw ?_
  simp only
  unfold wpOp
  exact opt_of ha (opt_of hf hc)

theorem wanted_guard {j d : Nat} {want b : Bool} (hg : o.guard = some (j, want)) (hd : (all[j]?).bind (·.dst) = some d) (hv : fr.get d = some (.bool b)) : wantedA all fr o = some (b == want) := by
  unfold wantedA
  rw [hg]
  simp only
  obtain ⟨g, h1, h2⟩ := bind_inv hd
  rw [h1]; simp only [Option.bind_some]; rw [h2]; simp only [Option.bind_some]; rw [hv]; rfl

theorem ops_doG {v : Value} {j d : Nat} {want b : Bool} (hg : o.guard = some (j, want)) (hd : (all[j]?).bind (·.dst) = some d) (hv : fr.get d = some (.bool b)) (hb : (b == want) = true)
    (ho : opA P (ev P 0) lk fr s o = some (v, s')) (hs : setA sz fr o.dst v = some fr') (k : wpOps P lk sz all os fr' s' K) : wpOps P lk sz all (o :: os) fr s K :=
  ops_doW (by rw [wanted_guard hg hd hv, hb]) ho hs k

theorem ops_skipG {j d : Nat} {want b : Bool} (hg : o.guard = some (j, want)) (hd : (all[j]?).bind (·.dst) = some d) (hv : fr.get d = some (.bool b)) (hb : (b == want) = false)
    (hs : setA sz fr o.dst undef = some fr') (k : wpOps P lk sz all os fr' s K) : wpOps P lk sz all (o :: os) fr s K :=
  ops_skip (by rw [wanted_guard hg hd hv, hb]) hs k

theorem ops_callG {dst : Option Tmp} {f : Operand} {args : Array Operand} {ats : Array TypeId} {ty : TypeId} {pos : String} {after : Array Edge} {ars : List Value} {fv : Value} {j d : Nat} {want b : Bool}
    (hd : (all[j]?).bind (·.dst) = some d) (hv : fr.get d = some (.bool b)) (hb : (b == want) = true) (ha : omap (opdA P.globals.size fr) args.toList = some ars) (hf : opdA P.globals.size fr f = some fv)
    (hc : wpCall P lk fv ars s fun v s' => opt (setA sz fr dst v) fun fr' => wpOps P lk sz all os fr' s' K) : wpOps P lk sz all (⟨dst, .call ⟨.value f, args, ats⟩, ty, pos, after, some (j, want)⟩ :: os) fr s K :=
  ops_callW (by rw [wanted_guard rfl hd hv, hb]) ha hf hc

theorem ops_end (h : K fr s) : wpOps P lk sz all [] fr s K := h

variable {C : Sig → Fr → HS → Prop} {a b : Code}
def seqK (P : Program) [Sorts P] (lk sz : Nat) (b : Code) (C : Sig → Fr → HS → Prop) : Sig → Fr → HS → Prop
  | .normal, f, t => wpC P lk sz b f t C
  | .exit i, f, t => C (.exit i) f t
  | .ret, f, t => C .ret f t
def blockK (id : Nat) (C : Sig → Fr → HS → Prop) : Sig → Fr → HS → Prop
  | .normal, f, t => C .normal f t
  | .exit i, f, t => if i = id then C .normal f t else C (.exit i) f t
  | .ret, f, t => C .ret f t

theorem c_seq (h : wpC P lk sz a fr s (seqK P lk sz b C)) : wpC P lk sz (.seq a b) fr s C := by
  show wpC P lk sz a fr s _
  exact wpC_mono h fun g f t h => by cases g <;> exact h
theorem c_block {id : Nat} (h : wpC P lk sz a fr s (blockK id C)) : wpC P lk sz (.block id a) fr s C := by
  show wpC P lk sz a fr s _
  exact wpC_mono h fun g f t h => by cases g <;> exact h
theorem c_region {id : Nat} {ops : Array Oper} (h : wpOps P lk sz ops.toList ops.toList fr s (C .normal)) : wpC P lk sz (.region id ops false) fr s C := h
theorem c_skip (h : C .normal fr s) : wpC P lk sz .skip fr s C := h
theorem c_ret (h : C .ret fr s) : wpC P lk sz .ret fr s C := h
theorem c_exit {id : Nat} (h : C (.exit id) fr s) : wpC P lk sz (.exit id) fr s C := h
theorem c_cond {x : Operand} {p : Bool} (hx : opdA P.globals.size fr x = some (.bool p)) (ht : p = true → wpC P lk sz a fr s C) (hf : p = false → wpC P lk sz b fr s C) : wpC P lk sz (.cond x a b) fr s C := by
  refine opt_of hx ?_
  cases p with
  | true => exact ht rfl
  | false => exact hf rfl
theorem c_loop (h : wpLoop P lk sz a fr s C) : wpC P lk sz (.loop a) fr s C := h
theorem k_seq (h : wpC P lk sz b fr s C) : seqK P lk sz b C .normal fr s := h
theorem k_seq_ret (h : C .ret fr s) : seqK P lk sz b C .ret fr s := h
theorem k_seq_exit {i : Nat} (h : C (.exit i) fr s) : seqK P lk sz b C (.exit i) fr s := h
theorem k_block {id : Nat} (h : C .normal fr s) : blockK id C .normal fr s := h
theorem k_block_ret {id : Nat} (h : C .ret fr s) : blockK id C .ret fr s := h
theorem k_block_here {id : Nat} (h : C .normal fr s) : blockK id C (.exit id) fr s := by
  show (if id = id then C .normal fr s else C (.exit id) fr s)
  rw [if_pos rfl]; exact h
theorem k_block_on {id i : Nat} (hi : (i == id) = false) (h : C (.exit i) fr s) : blockK id C (.exit i) fr s := by
  show (if i = id then C .normal fr s else C (.exit i) fr s)
  rw [if_neg (by simpa using hi)]; exact h

/-- The head of a loop: what goes on behind a round. -/
def loopK (I : Nat → Fr → HS → Prop) (m : Nat) (C : Sig → Fr → HS → Prop) : Sig → Fr → HS → Prop
  | .normal, f, t => ∃ m', m' < m ∧ I m' f t
  | .exit i, f, t => C (.exit i) f t
  | .ret, f, t => C .ret f t
theorem loop_i {s0 : HS} (I : Nat → Fr → HS → Prop) (m : Nat) (hlk : lk ≤ s0.nx) (h0 : I m fr s) (ha : Ab lk s0 s)
    (h : ∀ m f t, I m f t → Ab lk s0 t → wpC P lk sz a f t fun g f' t' => Ab lk s0 t' → loopK I m C g f' t') : wpLoop P lk sz a fr s C :=
  wpLoop_inv s0 I hlk (fun m f t hI hA => wpC_mono (h m f t hI hA) fun g f' t' h ha => by cases g <;> exact h ha) m fr s h0 ha

theorem wanted_none (hg : o.guard = none) : wantedA all fr o = some true := by unfold wantedA; rw [hg]
theorem ops_do {v : Value} (hg : o.guard = none) (ho : opA P (ev P 0) lk fr s o = some (v, s')) (hd : setA sz fr o.dst v = some fr') (k : wpOps P lk sz all os fr' s' K) : wpOps P lk sz all (o :: os) fr s K :=
  ops_doW (wanted_none hg) ho hd k
theorem ops_call {dst : Option Tmp} {f : Operand} {args : Array Operand} {ats : Array TypeId} {ty : TypeId} {pos : String} {after : Array Edge} {ars : List Value} {fv : Value}
    (ha : omap (opdA P.globals.size fr) args.toList = some ars) (hf : opdA P.globals.size fr f = some fv)
    (hc : wpCall P lk fv ars s fun v s' => opt (setA sz fr dst v) fun fr' => wpOps P lk sz all os fr' s' K) : wpOps P lk sz all (⟨dst, .call ⟨.value f, args, ats⟩, ty, pos, after, none⟩ :: os) fr s K :=
  ops_callW (wanted_none rfl) ha hf hc
end Go.Ev

/- Slices as lists. -/
namespace Go.Ev
open Go
variable {s s' : HS} {size : Nat} {v : Value} {xs : List (List Value)}

/-- v is a slice in memory that holds the elements xs, of size cells each. -/
def Sl (s : HS) (size : Nat) (v : Value) (xs : List (List Value)) : Prop :=
  (v = .slice none 0 0 ∧ xs = []) ∨
  ∃ id off cap wr e cs, v = .slice (some ⟨id, off, none⟩) xs.length cap ∧ s.hp.get id = some (.cells wr e cs) ∧ id < s.nx ∧ ∀ i x, xs[i]? = some x → x.length = size ∧ cutL cs (off + i * size) size = some x

theorem Sl.shape (h : Sl s size v xs) : ∃ b c, v = .slice b xs.length c := by
  rcases h with ⟨rfl, rfl⟩ | ⟨id, off, cap, wr, e, cs, rfl, _⟩
  · exact ⟨_, _, rfl⟩
  · exact ⟨_, _, rfl⟩

theorem Sl.at {b : Option Addr} {n c i : Nat} {x : List Value} (h : Sl s size (.slice b n c) xs) (hi : xs[i]? = some x) :
    ∃ id off wr e cs, b = some ⟨id, off, none⟩ ∧ s.hp.get id = some (.cells wr e cs) ∧ id < s.nx ∧ cutL cs (off + i * size) size = some x ∧ x.length = size := by
  rcases h with ⟨h1, rfl⟩ | ⟨id, off, cap, wr, e, cs, h1, h2, h3, h4⟩
  · simp at hi
  · cases h1
    obtain ⟨h5, h6⟩ := h4 i x hi
    exact ⟨id, off, wr, e, cs, rfl, h2, h3, h6, h5⟩

theorem Sl.keep (h : Sl s size v xs) (a : Ab s.nx s s') : Sl s' size v xs := by
  rcases h with ⟨rfl, rfl⟩ | ⟨id, off, cap, wr, e, cs, rfl, h2, h3, h4⟩
  · exact Or.inl ⟨rfl, rfl⟩
  · exact Or.inr ⟨id, off, cap, wr, e, cs, rfl, by rw [a.get (Nat.le_refl _) h3]; exact h2, Nat.lt_of_lt_of_le h3 a.nx, h4⟩

theorem cutL_flat {xs : List (List Value)} {pre post : List Value} (hs : ∀ x ∈ xs, x.length = size) : ∀ {i : Nat} {x : List Value}, xs[i]? = some x → cutL (pre ++ (xs.flatten ++ post)) (pre.length + i * size) size = some x := by
  induction xs generalizing pre with
  | nil => intro i x h; simp at h
  | cons y ys ih =>
    intro i x h
    cases i with
    | zero =>
      simp only [List.getElem?_cons_zero, Option.some.injEq] at h; subst h
      have := hs y (by simp)
      unfold cutL
      rw [if_pos (by simp; omega)]
      simp only [Nat.zero_mul, Nat.add_zero, List.flatten_cons, List.append_assoc, List.drop_left, Option.some.injEq]
      rw [← this, List.take_left]
    | succ i =>
      simp only [List.getElem?_cons_succ] at h
      have hy := hs y (by simp)
      have := ih (pre := pre ++ y) (fun z hz => hs z (by simp [hz])) h
      simp only [List.length_append, List.append_assoc, hy] at this
      rw [Nat.succ_mul, Nat.add_comm (i * size) size, ← Nat.add_assoc]
      simpa using this

/-- A block that holds just these elements, and more behind them. -/
theorem Sl.block {id n cap : Nat} {wr : Bool} {e : TypeId} {cs post : List Value} (h : s.hp.get id = some (.cells wr e cs)) (hc : cs = xs.flatten ++ post) (hid : id < s.nx) (hn : n = xs.length) (hs : ∀ x ∈ xs, x.length = size) :
    Sl s size (.slice (some ⟨id, 0, none⟩) n cap) xs := by
  subst hn hc
  refine Or.inr ⟨id, 0, cap, wr, e, _, rfl, h, hid, fun i x hx => ⟨hs x (List.mem_of_getElem? hx), ?_⟩⟩
  have := cutL_flat (pre := []) (post := post) hs hx
  simpa using this

theorem Sl.map {α : Type} {f : α → List Value} {l : List α} (hf : ∀ a, (f a).length = size) : ∀ x ∈ l.map f, x.length = size := by
  intro x hx; obtain ⟨a, _, rfl⟩ := List.mem_map.1 hx; exact hf a
end Go.Ev

/- Single steps through a region that draws its order. -/
namespace Go.Ev
open Go
variable {P : Program} [Sorts P] {lk sz : Nat} {all os : List Oper} {o : Oper} {fr fr' : Fr} {s s' : HS} {K : Fr → HS → Prop} {p : PlanRow} {ps : List PlanRow} {k : Nat} {Z : List (Nat × Nat × Nat)}

/-- Z: the blocks that operations have made, and that quiet loads read. -/
def wpD (P : Program) [Sorts P] (lk sz : Nat) (all os : List Oper) (ps : List PlanRow) (k : Nat) (Z : List (Nat × Nat × Nat)) (fr : Fr) (s : HS) (K : Fr → HS → Prop) : Prop :=
  wpDraw P lk sz all os ps k (Z.filter fun m => Nat.blt m.2.1 m.2.2) fr s K

theorem c_draw {id : Nat} {ops : Array Oper} {C : Sig → Fr → HS → Prop} (pl : List PlanRow) (h : planA ops = some pl) (hk : wpD P lk sz ops.toList ops.toList pl 0 [] fr s (C .normal)) : wpC P lk sz (.region id ops true) fr s C := by
  show opt (planA ops) _
  exact opt_of h hk

theorem d_end (h : K fr s) : wpD P lk sz all [] [] k Z fr s K := h

/-- Nothing is hidden from an operation, and it is no quiet load. -/
def freeD (p : PlanRow) (Z : List (Nat × Nat × Nat)) : Bool := Z.all (fun m => !p.beside.contains m.1) && p.quiet.isNone

theorem freeD_inv (h : freeD p Z = true) : Z.all (fun m => !p.beside.contains m.1) = true ∧ p.quiet = none := by
  unfold freeD at h
  simpa only [Bool.and_eq_true, Option.isNone_iff_eq_none] using h

theorem note_none {P : Program} {fr : Fr} {o : Oper} {made : List (Nat × Nat × Nat)} (h : p.quiet = none) : noteA P.globals.size p k fr o made = some made := by unfold noteA; rw [h]

theorem bad_nil (hz : Z.all (fun m => !p.beside.contains m.1) = true) : ((Z.filter fun m => Nat.blt m.2.1 m.2.2).filter fun m => p.beside.contains m.1).map (·.2) = [] := by
  rw [List.map_eq_nil_iff, List.filter_eq_nil_iff]
  intro m h
  have := List.all_eq_true.1 hz m (List.mem_filter.1 h).1
  simpa using this

theorem made_more {a b : Nat} : (if a < b then (k, a, b) :: Z.filter (fun m => Nat.blt m.2.1 m.2.2) else Z.filter fun m => Nat.blt m.2.1 m.2.2) = ((k, a, b) :: Z).filter fun m => Nat.blt m.2.1 m.2.2 := by
  by_cases h : a < b
  · rw [if_pos h, List.filter_cons_of_pos (by simpa using h)]
  · rw [if_neg h, List.filter_cons_of_neg (by simpa using h)]

theorem bar_if {p : PlanRow} {a b : Nat} : (if p.bar = true then a else b) = (bif p.bar then a else b) := by cases p.bar <;> rfl

theorem d_step {Q : Fr → HS → Prop} (hb : freeD p Z = true) (h : wpStep P (bif p.bar then lk else s.nx) sz all fr s o Q)
    (hk : ∀ f t, Q f t → wpD P lk sz all os ps (k + 1) ((k, s.nx, t.nx) :: Z) f t K) : wpD P lk sz all (o :: os) (p :: ps) k Z fr s K := by
  obtain ⟨b2, b4⟩ := freeD_inv hb
  have e := bad_nil (p := p) b2
  show wpStep P (if p.bar then lk else s.nx) sz all fr (hid s _) o _
  rw [e, bar_if]
  refine wpStep_mono h fun f t hq => opt_of (note_none b4) ?_
  rw [made_more]
  exact hk f t hq

theorem wpStep_do {v : Value} {Q : Fr → HS → Prop} (hw : wantedA all fr o = some true) (ho : opA P (ev P 0) lk fr s o = some (v, s')) (hd : setA sz fr o.dst v = some fr') (k : Q fr' s') : wpStep P lk sz all fr s o Q := by
  have : wpOps P lk sz all [o] fr s Q := ops_doW hw ho hd k
  exact this

/-- An operation that makes no block. -/
theorem d_sameW {v : Value} (hb : freeD p Z = true) (hw : wantedA all fr o = some true) (ho : opA P (ev P 0) (bif p.bar then lk else s.nx) fr s o = some (v, s')) (hn : s'.nx = s.nx)
    (hd : setA sz fr o.dst v = some fr') (hk : wpD P lk sz all os ps (k + 1) Z fr' s' K) : wpD P lk sz all (o :: os) (p :: ps) k Z fr s K := by
  obtain ⟨b2, b4⟩ := freeD_inv hb
  have e := bad_nil (p := p) b2
  show wpStep P (if p.bar then lk else s.nx) sz all fr (hid s _) o _
  rw [e, bar_if]
  refine wpStep_do (s' := s') (fr' := fr') hw ho hd ?_
  rw [if_neg (by omega)]
  exact opt_of (note_none b4) hk

theorem d_doW {v : Value} (hb : freeD p Z = true) (hw : wantedA all fr o = some true) (ho : opA P (ev P 0) (bif p.bar then lk else s.nx) fr s o = some (v, s'))
    (hd : setA sz fr o.dst v = some fr') (hk : wpD P lk sz all os ps (k + 1) ((k, s.nx, s'.nx) :: Z) fr' s' K) : wpD P lk sz all (o :: os) (p :: ps) k Z fr s K :=
  d_step hb (wpStep_do (Q := fun f t => f = fr' ∧ t = s') hw ho hd ⟨rfl, rfl⟩) fun f t h => by obtain ⟨rfl, rfl⟩ := h; exact hk

theorem d_sameG {v : Value} {j d : Nat} {want b : Bool} (hb : freeD p Z = true) (hg : o.guard = some (j, want)) (hd : (all[j]?).bind (·.dst) = some d) (hv : fr.get d = some (.bool b)) (hbw : (b == want) = true)
    (ho : opA P (ev P 0) (bif p.bar then lk else s.nx) fr s o = some (v, s')) (hn : s'.nx = s.nx)
    (hs : setA sz fr o.dst v = some fr') (hk : wpD P lk sz all os ps (k + 1) Z fr' s' K) : wpD P lk sz all (o :: os) (p :: ps) k Z fr s K :=
  d_sameW hb (by rw [wanted_guard hg hd hv, hbw]) ho hn hs hk

theorem d_skipG {j d : Nat} {want b : Bool} (hb : p.quiet.isNone = true) (hg : o.guard = some (j, want)) (hd : (all[j]?).bind (·.dst) = some d) (hv : fr.get d = some (.bool b)) (hbw : (b == want) = false)
    (hs : setA sz fr o.dst undef = some fr') (hk : ∀ s2 : HS, s2.nx = s.nx → (∀ id, s2.hp.get id = s.hp.get id) → wpD P lk sz all os ps (k + 1) Z fr' s2 K) : wpD P lk sz all (o :: os) (p :: ps) k Z fr s K := by
  have b4 : p.quiet = none := by simpa using hb
  show wpStep P (if p.bar then lk else s.nx) sz all fr (hid s _) o _
  refine opt_of (a := false) (by rw [wanted_guard hg hd hv, hbw]) (opt_of hs ?_)
  show opt (noteA P.globals.size p k fr o (if s.nx < (hid s _).nx then _ else _)) _
  rw [hid_nx, if_neg (by omega)]
  refine opt_of (note_none b4) (hk _ (by rw [unh_nx, hid_nx]) fun id => ?_)
  rw [unh_get]
  split
  · rfl
  · rename_i h; rw [hid_get, if_neg h]

theorem d_skip {j d : Nat} {want b : Bool} (hb : freeD p Z = true) (hg : o.guard = some (j, want)) (hd : (all[j]?).bind (·.dst) = some d) (hv : fr.get d = some (.bool b)) (hbw : (b == want) = false)
    (hs : setA sz fr o.dst undef = some fr') (hk : wpD P lk sz all os ps (k + 1) Z fr' s K) : wpD P lk sz all (o :: os) (p :: ps) k Z fr s K := by
  obtain ⟨b2, b4⟩ := freeD_inv hb
  have e := bad_nil (p := p) b2
  show wpStep P (if p.bar then lk else s.nx) sz all fr (hid s _) o _
  rw [e]
  refine opt_of (a := false) (by rw [wanted_guard hg hd hv, hbw]) (opt_of hs ?_)
  show opt (noteA P.globals.size p k fr o (if s.nx < s.nx then _ else _)) _
  rw [if_neg (by omega)]
  exact opt_of (note_none b4) hk

theorem d_callW {dst : Option Tmp} {f : Operand} {args : Array Operand} {ats : Array TypeId} {ty : TypeId} {pos : String} {after : Array Edge} {guard : Option (Nat × Bool)} {ars : List Value} {fv : Value}
    (hb : freeD p Z = true) (hw : wantedA all fr ⟨dst, .call ⟨.value f, args, ats⟩, ty, pos, after, guard⟩ = some true) (ha : omap (opdA P.globals.size fr) args.toList = some ars)
    (hf : opdA P.globals.size fr f = some fv)
    (hc : wpCall P (bif p.bar then lk else s.nx) fv ars s fun v s' => opt (setA sz fr dst v) fun fr' => wpD P lk sz all os ps (k + 1) ((k, s.nx, s'.nx) :: Z) fr' s' K) :
    wpD P lk sz all (⟨dst, .call ⟨.value f, args, ats⟩, ty, pos, after, guard⟩ :: os) (p :: ps) k Z fr s K := by
  refine d_step (Q := fun f t => wpD P lk sz all os ps (k + 1) ((k, s.nx, t.nx) :: Z) f t K) hb ?_ fun f t h => h
  refine opt_of hw ?_
  simp only
  unfold wpOp
  exact opt_of ha (opt_of hf hc)

theorem call_fn {g : FuncId} {args : List Value} {Q : Value → HS → Prop} (h : wpF P lk g args s Q) : wpCall P lk (.func (.func g) #[] #[]) args s Q := by
  show wpF P lk g (#[].toList ++ args ++ #[].toList) s Q
  simpa using h
theorem call_clo {g : FuncId} {args : List Value} {ca : Array Value} {Q : Value → HS → Prop} (h : wpF P lk g (args ++ ca.toList) s Q) : wpCall P lk (.func (.func g) #[] ca) args s Q := by
  show wpF P lk g (#[].toList ++ args ++ ca.toList) s Q
  simpa using h
theorem c_true {x : Operand} {a b : Code} {C : Sig → Fr → HS → Prop} (hx : opdA P.globals.size fr x = some (.bool true)) (h : wpC P lk sz a fr s C) : wpC P lk sz (.cond x a b) fr s C := opt_of hx h
theorem c_false {x : Operand} {a b : Code} {C : Sig → Fr → HS → Prop} (hx : opdA P.globals.size fr x = some (.bool false)) (h : wpC P lk sz b fr s C) : wpC P lk sz (.cond x a b) fr s C := opt_of hx h
theorem ret_i {P : Program} {rs : List ResultVar} {Q : Value → HS → Prop} {vs : List Value} (h : omap (resA P fr s.hp) rs = some vs) (k : Q (packR vs) s) : retK P rs Q .ret fr s := opt_of h k
theorem ret_n {P : Program} {rs : List ResultVar} {Q : Value → HS → Prop} {vs : List Value} (h : omap (resA P fr s.hp) rs = some vs) (k : Q (packR vs) s) : retK P rs Q .normal fr s := opt_of h k

theorem d_callSW {dst : Option Tmp} {f : Operand} {args : Array Operand} {ats : Array TypeId} {ty : TypeId} {pos : String} {after : Array Edge} {guard : Option (Nat × Bool)} {ars : List Value} {fv : Value}
    (hb : freeD p Z = true) (hw : wantedA all fr ⟨dst, .call ⟨.value f, args, ats⟩, ty, pos, after, guard⟩ = some true) (ha : omap (opdA P.globals.size fr) args.toList = some ars)
    (hf : opdA P.globals.size fr f = some fv)
    (hc : wpCall P (bif p.bar then lk else s.nx) fv ars s fun v s' => s'.nx = s.nx ∧ opt (setA sz fr dst v) fun fr' => wpD P lk sz all os ps (k + 1) Z fr' s' K) :
    wpD P lk sz all (⟨dst, .call ⟨.value f, args, ats⟩, ty, pos, after, guard⟩ :: os) (p :: ps) k Z fr s K := by
  obtain ⟨b2, b4⟩ := freeD_inv hb
  have e := bad_nil (p := p) b2
  show wpStep P (if p.bar then lk else s.nx) sz all fr (hid s _) _ _
  rw [e, bar_if]
  refine wpStep_mono (K := fun f t => t.nx = s.nx ∧ wpD P lk sz all os ps (k + 1) Z f t K) ?_ fun f t hq => ?_
  · refine opt_of hw ?_
    simp only
    unfold wpOp
    refine opt_of ha (opt_of hf ?_)
    exact wpCall_mono hc fun v s' h => opt_mono h.2 fun f h2 => ⟨h.1, h2⟩
  · rw [if_neg (by have := hq.1; omega)]
    exact opt_of (note_none b4) hq.2

theorem k_loop_exit {I : Nat → Fr → HS → Prop} {m i : Nat} {C : Sig → Fr → HS → Prop} (h : C (.exit i) fr s) : loopK I m C (.exit i) fr s := h
theorem k_loop_ret {I : Nat → Fr → HS → Prop} {m : Nat} {C : Sig → Fr → HS → Prop} (h : C .ret fr s) : loopK I m C .ret fr s := h

theorem d_same {v : Value} (hb : freeD p Z = true) (hg : o.guard = none) (ho : opA P (ev P 0) (bif p.bar then lk else s.nx) fr s o = some (v, s')) (hn : s'.nx = s.nx)
    (hd : setA sz fr o.dst v = some fr') (hk : wpD P lk sz all os ps (k + 1) Z fr' s' K) : wpD P lk sz all (o :: os) (p :: ps) k Z fr s K := d_sameW hb (wanted_none hg) ho hn hd hk
theorem d_do {v : Value} (hb : freeD p Z = true) (hg : o.guard = none) (ho : opA P (ev P 0) (bif p.bar then lk else s.nx) fr s o = some (v, s'))
    (hd : setA sz fr o.dst v = some fr') (hk : wpD P lk sz all os ps (k + 1) ((k, s.nx, s'.nx) :: Z) fr' s' K) : wpD P lk sz all (o :: os) (p :: ps) k Z fr s K := d_doW hb (wanted_none hg) ho hd hk
theorem d_call {dst : Option Tmp} {f : Operand} {args : Array Operand} {ats : Array TypeId} {ty : TypeId} {pos : String} {after : Array Edge} {ars : List Value} {fv : Value}
    (hb : freeD p Z = true) (ha : omap (opdA P.globals.size fr) args.toList = some ars) (hf : opdA P.globals.size fr f = some fv)
    (hc : wpCall P (bif p.bar then lk else s.nx) fv ars s fun v s' => opt (setA sz fr dst v) fun fr' => wpD P lk sz all os ps (k + 1) ((k, s.nx, s'.nx) :: Z) fr' s' K) :
    wpD P lk sz all (⟨dst, .call ⟨.value f, args, ats⟩, ty, pos, after, none⟩ :: os) (p :: ps) k Z fr s K := d_callW hb (wanted_none rfl) ha hf hc
theorem d_callS {dst : Option Tmp} {f : Operand} {args : Array Operand} {ats : Array TypeId} {ty : TypeId} {pos : String} {after : Array Edge} {ars : List Value} {fv : Value}
    (hb : freeD p Z = true) (ha : omap (opdA P.globals.size fr) args.toList = some ars) (hf : opdA P.globals.size fr f = some fv)
    (hc : wpCall P (bif p.bar then lk else s.nx) fv ars s fun v s' => s'.nx = s.nx ∧ opt (setA sz fr dst v) fun fr' => wpD P lk sz all os ps (k + 1) Z fr' s' K) :
    wpD P lk sz all (⟨dst, .call ⟨.value f, args, ats⟩, ty, pos, after, none⟩ :: os) (p :: ps) k Z fr s K := d_callSW hb (wanted_none rfl) ha hf hc

/-- A quiet load. -/
theorem d_quiet {v : Value} {b : Nat} {qs : List Nat} (hc : (Z.all fun m => !p.beside.contains m.1 && qs.contains m.1) = true) (hq : p.quiet = some qs) (hg : o.guard = none)
    (ho : opA P (ev P 0) (bif p.bar then lk else s.nx) fr s o = some (v, s)) (hbk : loadBlk P.globals.size fr o = some b)
    (hd : setA sz fr o.dst v = some fr') (hk : wpD P lk sz all os ps (k + 1) ((k, b, b + 1) :: Z) fr' s K) : wpD P lk sz all (o :: os) (p :: ps) k Z fr s K := by
  simp only [Bool.and_eq_true, List.all_eq_true] at hc
  have e := bad_nil (p := p) (List.all_eq_true.2 fun m hj => (hc m hj).1)
  show wpStep P (if p.bar then lk else s.nx) sz all fr (hid s _) o _
  rw [e, bar_if]
  refine wpStep_do (s' := s) (fr' := fr') (wanted_none hg) ho hd ?_
  rw [if_neg (by omega)]
  refine opt_of (a := (k, b, b + 1) :: Z.filter fun m => Nat.blt m.2.1 m.2.2) ?_ ?_
  · unfold noteA
    rw [hq]
    simp only [hbk, Option.bind_some]
    rw [if_pos]
    refine List.all_eq_true.2 fun m hmm => ?_
    have : qs.contains m.1 = true := (hc m (List.mem_filter.1 hmm).1).2
    rw [this]; rfl
  · have : ((k, b, b + 1) :: Z.filter fun m => Nat.blt m.2.1 m.2.2) = ((k, b, b + 1) :: Z).filter fun m => Nat.blt m.2.1 m.2.2 := by
      rw [List.filter_cons_of_pos (by simp)]
    show wpDraw P lk sz all os ps (k + 1) ((k, b, b + 1) :: Z.filter fun m => Nat.blt m.2.1 m.2.2) fr' s K
    rw [this]
    exact hk

/-- What is hidden from a step. -/
def hidZ (p : PlanRow) (Z : List (Nat × Nat × Nat)) : List (Nat × Nat) := ((Z.filter fun m => Nat.blt m.2.1 m.2.2).filter fun m => p.beside.contains m.1).map (·.2)

theorem hidZ_in {id : Nat} (h : Go.Ev.inBad (hidZ p Z) id = true) : ∃ m ∈ Z, p.beside.contains m.1 = true ∧ m.2.1 ≤ id ∧ id < m.2.2 := by
  unfold Go.Ev.inBad hidZ at h
  simp only [List.any_eq_true, List.mem_map, List.mem_filter, decide_eq_true_eq] at h
  obtain ⟨x, ⟨m, ⟨⟨h1, _⟩, h2⟩, rfl⟩, h3⟩ := h
  exact ⟨m, h1, h2, h3⟩

/-- An operation from which the block of one quiet load is hidden. -/
theorem d_hid {b j : Nat} (hq : p.quiet = none) (hz : (Z.filter fun m => p.beside.contains m.1) = [(j, b, b + 1)]) (hg : o.guard = none)
    (h : ∀ sh : HS, sh.nx = s.nx → (∀ id, sh.hp.get id = if id = b then none else s.hp.get id) → ∃ x, opA P (ev P 0) (bif p.bar then lk else s.nx) fr sh o = x ∧ opt x fun q =>
      ∀ s2 : HS, s2.nx = q.2.nx → (∀ id, s2.hp.get id = if id = b then s.hp.get id else q.2.hp.get id) → opt (setA sz fr o.dst q.1) fun fr' => wpD P lk sz all os ps (k + 1) ((k, s.nx, q.2.nx) :: Z) fr' s2 K) :
    wpD P lk sz all (o :: os) (p :: ps) k Z fr s K := by
  have e : hidZ p Z = [(b, b + 1)] := by
    unfold hidZ
    rw [List.filter_filter]
    rw [show (Z.filter fun a => p.beside.contains a.1 && Nat.blt a.2.1 a.2.2) = (Z.filter fun m => p.beside.contains m.1).filter fun m => Nat.blt m.2.1 m.2.2 by
      rw [List.filter_filter]; exact List.filter_congr fun m _ => Bool.and_comm _ _]
    rw [hz, List.filter_cons_of_pos (by simp)]; rfl
  show wpStep P (if p.bar then lk else s.nx) sz all fr (hid s (hidZ p Z)) o fun fr' s1 => opt (noteA P.globals.size p k fr o _) fun made' => wpDraw P lk sz all os ps (k + 1) made' fr' (unh s s1 (hidZ p Z)) K
  rw [e, bar_if]
  have hin : ∀ id, Go.Ev.inBad [(b, b + 1)] id = true ↔ id = b := fun id => by
    simp only [Go.Ev.inBad, List.any_cons, List.any_nil, Bool.or_false, decide_eq_true_eq]
    omega
  obtain ⟨x, hx, h2⟩ := h (hid s [(b, b + 1)]) (hid_nx _ _) fun id => by
    rw [hid_get]
    by_cases hi : id = b
    · rw [if_pos ((hin id).2 hi), if_pos hi]
    · rw [if_neg (fun e => hi ((hin id).1 e)), if_neg hi]
  subst hx
  obtain ⟨⟨v, s1⟩, h3, h4⟩ := opt_inv h2
  have h5 := h4 (unh s s1 [(b, b + 1)]) (unh_nx _ _ _) fun id => by
    rw [unh_get]
    by_cases hi : id = b
    · rw [if_pos ((hin id).2 hi), if_pos hi]
    · rw [if_neg (fun e => hi ((hin id).1 e)), if_neg hi]
  obtain ⟨fr2, h6, h7⟩ := opt_inv h5
  refine wpStep_do (fr' := fr2) (wanted_none hg) h3 h6 ?_
  refine opt_of (note_none hq) ?_
  rw [made_more]
  exact h7

theorem wpCall_ab {f : Value} {args : List Value} {Q : Value → HS → Prop} (hl : lk ≤ s.nx) (h : wpCall P lk f args s Q) : wpCall P lk f args s fun v s' => Ab lk s s' ∧ Q v s' := by
  unfold wpCall at *
  split at h
  · obtain ⟨n, v, s', h1, h2⟩ := h; exact ⟨n, v, s', h1, (ev_ab P n).call hl h1, h2⟩
  · obtain ⟨a, b, n, v, s', h1, h2⟩ := h; exact ⟨a, b, n, v, s', h1, (ev_ab P n).round hl h1, h2⟩
  · cases h

theorem low_same {lo : Nat} {q : HS} {sh : HS} (hs : sh = hid s (hidZ p Z)) (hlo : ∀ m ∈ Z, p.beside.contains m.1 = true → lo ≤ m.2.1 ∧ m.2.2 ≤ s.nx) (a : Ab s.nx sh q) :
    Ab s.nx s (unh s q (hidZ p Z)) ∧ (∀ id, s.nx ≤ id → (unh s q (hidZ p Z)).hp.get id = q.hp.get id) := by
  subst hs
  have an := a.nx
  rw [hid_nx] at an
  refine ⟨⟨by rw [unh_nx]; exact an, fun _ id h => ?_, fun hB id hne => ?_⟩, fun id h => ?_⟩
  · rw [unh_get]
    split
    · rfl
    · rename_i hn; rw [a.lock (by rw [hid_nx]; exact Nat.le_refl _) id h, hid_get, if_neg hn]
  · rw [unh_nx]
    have hBh : Bnd (hid s (hidZ p Z)) := fun j hj => by
      rw [hid_nx]
      rw [hid_get] at hj
      split at hj
      · simp at hj
      · exact hB j hj
    rw [unh_get] at hne
    split at hne
    · have := hB id hne; omega
    · exact a.bnd hBh id hne
  · rw [unh_get]
    split
    · rename_i hn
      obtain ⟨m, h1, h2, h3, h4⟩ := hidZ_in hn
      have := (hlo m h1 h2).2; omega
    · rfl

theorem low_get {lo : Nat} (hlo : ∀ m ∈ Z, p.beside.contains m.1 = true → lo ≤ m.2.1 ∧ m.2.2 ≤ s.nx) {id : Nat} (h : id < lo) : (hid s (hidZ p Z)).hp.get id = s.hp.get id := by
  rw [hid_get]
  split
  · rename_i hn
    obtain ⟨m, h1, h2, h3, h4⟩ := hidZ_in hn
    have := (hlo m h1 h2).1; omega
  · rfl

/-- An operation that leaves old blocks alone, from which blocks from lo on are hidden. -/
theorem d_low {lo : Nat} (hq : p.quiet = none) (hb : p.bar = false) (hg : o.guard = none) (hlo : ∀ m ∈ Z, p.beside.contains m.1 = true → lo ≤ m.2.1 ∧ m.2.2 ≤ s.nx)
    (h : ∀ sh : HS, sh.nx = s.nx → (∀ id, id < lo → sh.hp.get id = s.hp.get id) → ∃ x, opA P (ev P 0) s.nx fr sh o = x ∧ opt x fun q =>
      ∀ s2 : HS, Ab s.nx s s2 → s2.nx = q.2.nx → (∀ id, s.nx ≤ id → s2.hp.get id = q.2.hp.get id) → opt (setA sz fr o.dst q.1) fun fr' =>
        wpD P lk sz all os ps (k + 1) ((k, s.nx, s2.nx) :: Z) fr' s2 K) : wpD P lk sz all (o :: os) (p :: ps) k Z fr s K := by
  show wpStep P (if p.bar then lk else s.nx) sz all fr (hid s (hidZ p Z)) o fun fr' s1 => opt (noteA P.globals.size p k fr o _) fun made' => wpDraw P lk sz all os ps (k + 1) made' fr' (unh s s1 (hidZ p Z)) K
  rw [hb, if_neg (by simp)]
  obtain ⟨x, hx, h2⟩ := h (hid s (hidZ p Z)) (hid_nx _ _) fun id hid' => low_get hlo hid'
  subst hx
  obtain ⟨⟨v, s1⟩, h3, h4⟩ := opt_inv h2
  have a := opA_ab (ev_ab P 0) (by rw [hid_nx]; exact Nat.le_refl _) h3
  obtain ⟨l1, l2⟩ := low_same rfl hlo a
  obtain ⟨fr2, h6, h7⟩ := opt_inv (h4 (unh s s1 (hidZ p Z)) l1 (unh_nx _ _ _) l2)
  refine wpStep_do (fr' := fr2) (wanted_none hg) h3 h6 ?_
  refine opt_of (note_none hq) ?_
  rw [made_more]
  rw [unh_nx] at h7
  exact h7

theorem Ab.ofEq {lk : Nat} {s s2 : HS} (hn : s2.nx = s.nx) (hg : ∀ id, s2.hp.get id = s.hp.get id) : Ab lk s s2 := ⟨by omega, fun _ id _ => hg id, fun hB id h => by rw [hn]; exact hB id (by rw [← hg]; exact h)⟩

/-- The same, if it makes no block. -/
theorem d_lowS {lo : Nat} (hq : p.quiet = none) (hb : p.bar = false) (hg : o.guard = none) (hlo : ∀ m ∈ Z, p.beside.contains m.1 = true → lo ≤ m.2.1 ∧ m.2.2 ≤ s.nx) {v : Value}
    (h : ∀ sh : HS, sh.nx = s.nx → (∀ id, id < lo → sh.hp.get id = s.hp.get id) → opA P (ev P 0) s.nx fr sh o = some (v, sh))
    (hd : setA sz fr o.dst v = some fr') (hk : ∀ s2 : HS, s2.nx = s.nx → (∀ id, s2.hp.get id = s.hp.get id) → wpD P lk sz all os ps (k + 1) Z fr' s2 K) : wpD P lk sz all (o :: os) (p :: ps) k Z fr s K := by
  show wpStep P (if p.bar then lk else s.nx) sz all fr (hid s (hidZ p Z)) o fun fr' s1 => opt (noteA P.globals.size p k fr o (if s.nx < s1.nx then _ else _)) fun made' => wpDraw P lk sz all os ps (k + 1) made' fr' (unh s s1 (hidZ p Z)) K
  rw [hb, if_neg (by simp)]
  have h3 := h (hid s (hidZ p Z)) (hid_nx _ _) fun id hid' => low_get hlo hid'
  refine wpStep_do (fr' := fr') (wanted_none hg) h3 hd ?_
  rw [hid_nx, if_neg (Nat.lt_irrefl _)]
  refine opt_of (note_none hq) (hk _ (by rw [unh_nx, hid_nx]) fun id => ?_)
  rw [unh_get]
  split
  · rfl
  · rename_i hn; rw [hid_get, if_neg hn]

/-- A call that leaves old blocks alone, from which blocks from lo on are hidden. -/
theorem d_lowC {lo : Nat} {dst : Option Tmp} {f : Operand} {args : Array Operand} {ats : Array TypeId} {ty : TypeId} {pos : String} {after : Array Edge} {ars : List Value} {fv : Value}
    (hq : p.quiet = none) (hb : p.bar = false) (hlo : ∀ m ∈ Z, p.beside.contains m.1 = true → lo ≤ m.2.1 ∧ m.2.2 ≤ s.nx) (ha : omap (opdA P.globals.size fr) args.toList = some ars) (hf : opdA P.globals.size fr f = some fv)
    (hc : ∀ sh : HS, sh.nx = s.nx → (∀ id, id < lo → sh.hp.get id = s.hp.get id) → wpCall P s.nx fv ars sh fun v q =>
      ∀ s2 : HS, Ab s.nx s s2 → s2.nx = q.nx → (∀ id, s.nx ≤ id → s2.hp.get id = q.hp.get id) → opt (setA sz fr dst v) fun fr' =>
        wpD P lk sz all os ps (k + 1) ((k, s.nx, s2.nx) :: Z) fr' s2 K) :
    wpD P lk sz all (⟨dst, .call ⟨.value f, args, ats⟩, ty, pos, after, none⟩ :: os) (p :: ps) k Z fr s K := by
  show wpStep P (if p.bar then lk else s.nx) sz all fr (hid s (hidZ p Z)) ⟨dst, .call ⟨.value f, args, ats⟩, ty, pos, after, none⟩ fun fr' s1 => opt (noteA P.globals.size p k fr ⟨dst, .call ⟨.value f, args, ats⟩, ty, pos, after, none⟩ (if s.nx < s1.nx then _ else _)) fun made' => wpDraw P lk sz all os ps (k + 1) made' fr' (unh s s1 (hidZ p Z)) K
  rw [hb, if_neg (by simp)]
  refine wpStep_mono (K := fun f t => wpD P lk sz all os ps (k + 1) ((k, s.nx, t.nx) :: Z) f (unh s t (hidZ p Z)) K) ?_ fun f t hq2 => ?_
  · refine opt_of (wanted_none rfl) ?_
    simp only
    unfold wpOp
    refine opt_of ha (opt_of hf ?_)
    refine wpCall_mono (wpCall_ab (by rw [hid_nx]; exact Nat.le_refl _) (hc (hid s (hidZ p Z)) (hid_nx _ _) fun id hid' => low_get hlo hid')) fun v s' h => ?_
    obtain ⟨l1, l2⟩ := low_same rfl hlo h.1
    refine opt_mono (h.2 (unh s s' (hidZ p Z)) l1 (unh_nx _ _ _) l2) fun f h2 => ?_
    rw [unh_nx] at h2
    exact h2
  · refine opt_of (note_none hq) ?_
    rw [made_more]
    exact hq2
end Go.Ev

/- Frames outside a loop's own temporaries stay; loops with a raised lock; single steps whose answer is only partly known. -/
namespace Go.Ev
open Go
variable {P : Program} [Sorts P] {lk sz : Nat}

/-- Is a temporary set by a code? -/
def asgOps (ops : List Oper) (i : Nat) : Bool := ops.any fun o => match o.dst with | some d => Nat.beq d i | none => false
def asgd : Code → Nat → Bool
  | .region _ ops _, i => asgOps ops.toList i
  | .seq a b, i => asgd a i || asgd b i
  | .cond _ a b, i => asgd a i || asgd b i
  | .block _ c, i => asgd c i
  | .loop c, i => asgd c i
  | .scope c, i => asgd c i
  | _, _ => false

def FKeep (c : Code) (fr f : Fr) : Prop := ∀ i, asgd c i = false → f.get i = fr.get i
def RKeep (R : Rec) : Prop := ∀ lk sz c fr s g f t, R.loop lk sz c fr s = some (g, f, t) → FKeep c fr f

theorem setA_keep {fr fr' : Fr} {o : Oper} {v : Value} (h : setA sz fr o.dst v = some fr') {i : Nat} (hi : asgOps [o] i = false) : fr'.get i = fr.get i := by
  unfold setA at h
  split at h
  · cases h; rfl
  · rename_i t ht
    split at h
    · cases h
      rw [T.get_put, if_neg]
      intro e
      simp [asgOps, ht, e] at hi
    · cases h

theorem asgOps_cons {o : Oper} {os : List Oper} {i : Nat} (h : asgOps (o :: os) i = false) : asgOps [o] i = false ∧ asgOps os i = false := by
  unfold asgOps at *
  simp only [List.any_cons, Bool.or_eq_false_iff, List.any_nil, Bool.or_false] at h ⊢
  exact h

theorem stepA_keep {P : Program} {R : Rec} {all : List Oper} {fr fr' : Fr} {s s' : HS} {o : Oper} (h : stepA P R lk sz all fr s o = some (fr', s')) {i : Nat} (hi : asgOps [o] i = false) : fr'.get i = fr.get i := by
  unfold stepA at h
  obtain ⟨w, _, h⟩ := bind_inv h
  split at h
  · obtain ⟨⟨v, s1⟩, _, h⟩ := bind_inv h
    simp only [Option.map_eq_some_iff] at h
    obtain ⟨f, h1, h2⟩ := h
    cases h2
    exact setA_keep h1 hi
  · simp only [Option.map_eq_some_iff] at h
    obtain ⟨f, h1, h2⟩ := h
    cases h2
    exact setA_keep h1 hi

theorem opsA_keep {P : Program} {R : Rec} {all : List Oper} : ∀ {ops : List Oper} {fr fr' : Fr} {s s' : HS}, opsA P R lk sz all ops fr s = some (fr', s') → ∀ {i : Nat}, asgOps ops i = false → fr'.get i = fr.get i := by
  intro ops
  induction ops with
  | nil => intro fr fr' s s' h i hi; cases h; rfl
  | cons o os ih =>
    intro fr fr' s s' h i hi
    obtain ⟨h1, h2⟩ := asgOps_cons hi
    simp only [opsA] at h
    obtain ⟨⟨f, t⟩, h3, h4⟩ := bind_inv h
    rw [ih h4 h2, stepA_keep h3 h1]

theorem drawA_keep {P : Program} {R : Rec} {all : List Oper} : ∀ {ops : List Oper} {ps : List PlanRow} {k : Nat} {made : List (Nat × Nat × Nat)} {fr fr' : Fr} {s s' : HS}, drawA P R lk sz all ops ps k made fr s = some (fr', s') →
    ∀ {i : Nat}, asgOps ops i = false → fr'.get i = fr.get i := by
  intro ops
  induction ops with
  | nil => intro ps k made fr fr' s s' h i hi; cases ps with | nil => cases h; rfl | cons p ps => cases h
  | cons o os ih =>
    intro ps k made fr fr' s s' h i hi
    cases ps with
    | nil => cases h
    | cons p ps =>
      obtain ⟨h1, h2⟩ := asgOps_cons hi
      simp only [drawA] at h
      obtain ⟨⟨f, t⟩, h3, h4'⟩ := bind_inv h
      obtain ⟨_, _, h4⟩ := bind_inv h4'
      rw [ih h4 h2, stepA_keep h3 h1]

theorem codeA_keep {P : Program} {R : Rec} (hR : RKeep R) : ∀ {c : Code} {lk sz : Nat} {fr f : Fr} {s t : HS} {g : Sig}, codeA P R lk sz c fr s = some (g, f, t) → FKeep c fr f := by
  intro c
  induction c with
  | skip => intro lk sz fr f s t g h i _; cases h; rfl
  | label l => intro lk sz fr f s t g h i _; cases h; rfl
  | region id ops draw =>
    intro lk sz fr f s t g h i hi
    cases draw with
    | false =>
      simp only [codeA, Option.map_eq_some_iff] at h
      obtain ⟨⟨f1, t1⟩, h1, h2⟩ := h
      cases h2
      exact opsA_keep h1 hi
    | true =>
      simp only [codeA] at h
      obtain ⟨pl, _, h⟩ := bind_inv h
      simp only [Option.map_eq_some_iff] at h
      obtain ⟨⟨f1, t1⟩, h1, h2⟩ := h
      cases h2
      exact drawA_keep h1 hi
  | seq x y ihx ihy =>
    intro lk sz fr f s t g h i hi
    simp only [asgd, Bool.or_eq_false_iff] at hi
    simp only [codeA] at h
    obtain ⟨⟨g1, f1, t1⟩, h1, h2⟩ := bind_inv h
    cases g1 with
    | normal => simp only at h2; rw [ihy h2 i hi.2, ihx h1 i hi.1]
    | exit j => cases h2; exact ihx h1 i hi.1
    | ret => cases h2; exact ihx h1 i hi.1
  | cond c x y ihx ihy =>
    intro lk sz fr f s t g h i hi
    simp only [asgd, Bool.or_eq_false_iff] at hi
    simp only [codeA] at h
    obtain ⟨v, _, h2⟩ := bind_inv h
    split at h2
    · split at h2
      · exact ihx h2 i hi.1
      · exact ihy h2 i hi.2
    · cases h2
  | block id c ih =>
    intro lk sz fr f s t g h i hi
    simp only [asgd] at hi
    simp only [codeA, Option.map_eq_some_iff] at h
    obtain ⟨⟨g1, f1, t1⟩, h1, h2⟩ := h
    cases g1 with
    | normal => cases h2; exact ih h1 i hi
    | ret => cases h2; exact ih h1 i hi
    | exit j =>
      simp only at h2
      split at h2 <;> (cases h2; exact ih h1 i hi)
  | loop c ih => intro lk sz fr f s t g h i hi; exact hR _ _ _ _ _ _ _ _ h i hi
  | rangeFunc fn ps assign body ih1 ih2 =>
    intro lk sz fr f s t g h i hi
    simp only [codeA] at h
    obtain ⟨v, _, h2⟩ := bind_inv h
    obtain ⟨⟨v1, s2⟩, _, h3⟩ := bind_inv h2
    simp only at h3
    split at h3
    · split at h3 <;> first | (cases h3; rfl) | cases h3
    · cases h3
  | exit id => intro lk sz fr f s t g h i _; cases h; rfl
  | scope c ih => intro lk sz fr f s t g h i hi; cases h
  | goto l => intro lk sz fr f s t g h i _; cases h
  | ret => intro lk sz fr f s t g h i _; cases h; rfl
  | refuse y => intro lk sz fr f s t g h i _; cases h

theorem ev_keep (P : Program) [Sorts P] : ∀ n, RKeep (ev P n) := by
  intro n
  induction n with
  | zero => intro lk sz c fr s g f t h; cases h
  | succ n ih =>
    intro lk sz c fr s g f t h i hi
    change loopFA P (ev P n) lk sz c fr s = _ at h
    unfold loopFA at h
    obtain ⟨⟨g1, f1, t1⟩, h1, h2⟩ := bind_inv h
    have k1 := codeA_keep ih h1 i hi
    cases g1 with
    | normal => simp only at h2; rw [ih _ _ _ _ _ _ _ _ h2 i hi, k1]
    | exit j => cases h2; exact k1
    | ret => cases h2; exact k1

/-- The head of a loop, at a lock of its own; the temporaries that the loop does not set are as ahead of it. -/
theorem loop_k {lk' : Nat} {c : Code} {fr : Fr} {s s0 : HS} {C : Sig → Fr → HS → Prop} (I : Nat → Fr → HS → Prop) (m : Nat) (hle : lk ≤ lk') (hlk : lk' ≤ s0.nx) (h0 : I m fr s) (ha : Ab lk' s0 s)
    (h : ∀ m f t, I m f t → Ab lk' s0 t → FKeep c fr f → wpC P lk' sz c f t fun g f' t' => Ab lk' s0 t' → FKeep c fr f' → loopK I m C g f' t') : wpLoop P lk sz c fr s C := by
  have key : ∀ m f t, I m f t → Ab lk' s0 t → FKeep c fr f → wpLoop P lk' sz c f t C := by
    intro m
    induction m using Nat.strongRecOn with
    | _ m ih =>
      intro f t hI hA hF
      obtain ⟨n, g, f', t', h1, h2⟩ := wpC_ok (h m f t hI hA hF)
      have a := hA.trans (codeA_ab (ev_ab P n) (Nat.le_trans hlk hA.nx) h1)
      have b : FKeep c fr f' := fun i hi => by rw [codeA_keep (ev_keep P n) h1 i hi, hF i hi]
      have h3 := h2 a b
      refine wpLoop_step ⟨n, g, f', t', h1, ?_⟩
      cases g with
      | normal => obtain ⟨m', h4, h5⟩ := h3; exact ih m' h4 f' t' h5 a b
      | exit i => exact h3
      | ret => exact h3
  obtain ⟨n, g, f, t, h1, h2⟩ := key m fr s h0 ha fun _ _ => rfl
  exact ⟨n, g, f, t, (ev_le P (Nat.le_refl n)).loop hle h1, h2⟩

variable {all os : List Oper} {o : Oper} {fr fr' : Fr} {s s' : HS} {K : Fr → HS → Prop} {p : PlanRow} {ps : List PlanRow} {k : Nat} {Z : List (Nat × Nat × Nat)}
/-- A step whose answer is told by a condition. -/
theorem ops_opt {x : Option (Value × HS)} (hg : o.guard = none) (he : opA P (ev P 0) lk fr s o = x) (h : opt x fun q => opt (setA sz fr o.dst q.1) fun fr' => wpOps P lk sz all os fr' q.2 K) : wpOps P lk sz all (o :: os) fr s K := by
  subst he
  obtain ⟨⟨v, s'⟩, h1, h2⟩ := opt_inv h
  obtain ⟨fr', h3, h4⟩ := opt_inv h2
  exact ops_do hg h1 h3 h4
theorem ops_optG {x : Option (Value × HS)} {j d : Nat} {want b : Bool} (hg : o.guard = some (j, want)) (hd : (all[j]?).bind (·.dst) = some d) (hv : fr.get d = some (.bool b)) (hb : (b == want) = true)
    (he : opA P (ev P 0) lk fr s o = x) (h : opt x fun q => opt (setA sz fr o.dst q.1) fun fr' => wpOps P lk sz all os fr' q.2 K) : wpOps P lk sz all (o :: os) fr s K := by
  subst he
  obtain ⟨⟨v, s'⟩, h1, h2⟩ := opt_inv h
  obtain ⟨fr', h3, h4⟩ := opt_inv h2
  exact ops_doG hg hd hv hb h1 h3 h4
theorem d_opt {x : Option (Value × HS)} (hb : freeD p Z = true) (hg : o.guard = none)
    (he : opA P (ev P 0) (bif p.bar then lk else s.nx) fr s o = x) (h : opt x fun q => opt (setA sz fr o.dst q.1) fun fr' => wpD P lk sz all os ps (k + 1) ((k, s.nx, q.2.nx) :: Z) fr' q.2 K) : wpD P lk sz all (o :: os) (p :: ps) k Z fr s K := by
  subst he
  obtain ⟨⟨v, s'⟩, h1, h2⟩ := opt_inv h
  obtain ⟨fr', h3, h4⟩ := opt_inv h2
  exact d_do hb hg h1 h3 h4
theorem d_callG {dst : Option Tmp} {f : Operand} {args : Array Operand} {ats : Array TypeId} {ty : TypeId} {pos : String} {after : Array Edge} {ars : List Value} {fv : Value} {j d : Nat} {want b : Bool}
    (hb : freeD p Z = true) (hd : (all[j]?).bind (·.dst) = some d) (hv : fr.get d = some (.bool b)) (hbw : (b == want) = true)
    (ha : omap (opdA P.globals.size fr) args.toList = some ars) (hf : opdA P.globals.size fr f = some fv)
    (hc : wpCall P (bif p.bar then lk else s.nx) fv ars s fun v s' => opt (setA sz fr dst v) fun fr' => wpD P lk sz all os ps (k + 1) ((k, s.nx, s'.nx) :: Z) fr' s' K) :
    wpD P lk sz all (⟨dst, .call ⟨.value f, args, ats⟩, ty, pos, after, some (j, want)⟩ :: os) (p :: ps) k Z fr s K := d_callW hb (by rw [wanted_guard rfl hd hv, hbw]) ha hf hc
theorem opt_ex {α : Type} {x : Option α} {Q k : α → Prop} (h : opt x Q) (hk : ∀ a, Q a → k a) : opt x k := opt_mono h hk
theorem k_loop_next {I : Nat → Fr → HS → Prop} {m m' : Nat} {C : Sig → Fr → HS → Prop} (hm : m' < m) (h : I m' fr s) : loopK I m C .normal fr s := ⟨m', hm, h⟩
theorem c_if {p : Bool} {x : Operand} {a b : Code} {C : Sig → Fr → HS → Prop} (hx : opdA P.globals.size fr x = some (.bool p)) (h : bif p then wpC P lk sz a fr s C else wpC P lk sz b fr s C) : wpC P lk sz (.cond x a b) fr s C := by
  cases p with
  | true => exact c_true hx h
  | false => exact c_false hx h
theorem if_t {A B : Prop} (h : A) : bif true then A else B := h
theorem if_f {A B : Prop} (h : B) : bif false then A else B := h
theorem bt_tf : (true == false) = false := rfl
theorem bt_ft : (false == true) = false := rfl
theorem bt_tt : (true == true) = true := rfl
theorem bt_ff : (false == false) = true := rfl
end Go.Ev
