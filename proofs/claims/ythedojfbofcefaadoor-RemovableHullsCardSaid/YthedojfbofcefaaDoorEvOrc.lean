/- The evaluator with known answers: a call without arguments that answers a truth in an empty memory is answered so everywhere. -/
import Derived.Test.YthedojfbofcefaaDoorEvLe
namespace Go.Ev
open Go
variable {P : Program}

def plainO : AObj → Bool
  | .cells _ _ cs => cs.all (plainN 0)
  | _ => false
/-- The blocks of the program's variables that hold no addresses. -/
def lowB (s : HS) (i : Nat) : Option AObj := match s.hp.get i with | some o => bif plainO o then some o else none | none => none
def low (P : Program) (s : HS) : HS := ⟨(List.range P.globals.size).foldl (fun h i => h.put i (lowB s i)) .nil, P.globals.size⟩

theorem lowP_get (s : HS) (id : Nat) : (low P s).hp.get id = if id < P.globals.size then lowB s id else none := by
  unfold low
  have key : ∀ n, ((List.range n).foldl (fun h i => h.put i (lowB s i)) (.nil : T AObj)).get id = if id < n then lowB s id else none := by
    intro n
    induction n with
    | zero => rfl
    | succ n ih =>
      rw [List.range_succ, List.foldl_append, List.foldl_cons, List.foldl_nil, T.get_put, ih]
      by_cases h : id = n
      · rw [if_pos h, if_pos (by omega), h]
      · rw [if_neg h]
        by_cases h2 : id < n
        · rw [if_pos h2, if_pos (by omega)]
        · rw [if_neg h2, if_neg (by omega)]
  exact key _

theorem lowB_inv {s : HS} {i : Nat} {o : AObj} (h : lowB s i = some o) : s.hp.get i = some o ∧ plainO o = true := by
  unfold lowB at h
  split at h
  · rename_i o' ho
    cases hp : plainO o' with
    | true => rw [hp] at h; cases h; exact ⟨ho, hp⟩
    | false => rw [hp] at h; cases h
  · cases h

theorem VR.plain0 {φ φ' : Inj} {v v' : Value} (h : VR φ v v') (hp : plainN 0 v = true) : VR φ' v v' := by
  cases h <;> first | (constructor; done) | (simp [plainN] at hp; done)

def ClosedB (P : Program) (f : FuncId) (h0 : HS) (b : Bool) : Prop := ∃ n s', (ev0 P n).call P.globals.size f [] h0 = some (.bool b, s')

open Classical in
/-- The known answers. -/
noncomputable def orc (P : Program) (f : FuncId) (args : List Value) (s : HS) : Option Bool :=
  if h : args = [] ∧ ∃ b, ClosedB P f (low P s) b then some (Classical.choose h.2) else none

theorem orc_spec {f : FuncId} {args : List Value} {s : HS} {b : Bool} (h : orc P f args s = some b) : args = [] ∧ ClosedB P f (low P s) b := by
  unfold orc at h
  split at h
  · rename_i hc; cases h; exact ⟨hc.1, Classical.choose_spec hc.2⟩
  · cases h

theorem closed_uniq {f : FuncId} {h0 : HS} {b c : Bool} (h : ClosedB P f h0 b) (k : ClosedB P f h0 c) : b = c := by
  obtain ⟨n, s1, h1⟩ := h
  obtain ⟨m, s2, h2⟩ := k
  have g1 := (ev0_le P (Nat.le_max_left n m)).call (Nat.le_refl _) h1
  have g2 := (ev0_le P (Nat.le_max_right n m)).call (Nat.le_refl _) h2
  rw [g1] at g2
  cases g2; rfl

theorem orc_of {f : FuncId} {s : HS} {b : Bool} (h : ClosedB P f (low P s) b) : orc P f [] s = some b := by
  unfold orc
  have hc : ([] : List Value) = [] ∧ ∃ b, ClosedB P f (low P s) b := ⟨rfl, b, h⟩
  rw [dif_pos hc]
  rw [closed_uniq (Classical.choose_spec hc.2) h]

theorem orc_cons {f : FuncId} {a : Value} {args : List Value} {s : HS} : orc P f (a :: args) s = none := by
  unfold orc
  rw [dif_neg (by rintro ⟨h, _⟩; cases h)]

noncomputable def withO (P : Program) (R : Rec) : Rec :=
  { R with call := fun lk f as s => match orc P f as s with | some b => some (Value.bool b, s) | none => R.call lk f as s }

/-- The evaluator. -/
noncomputable def ev (P : Program) : Nat → Rec
  | 0 => { loop := fun _ _ _ _ _ => none, call := fun _ _ _ _ => none, round := fun _ _ _ _ => none }
  | n + 1 => withO P (nextR P (ev P n))

theorem withO_mono {R : Rec} (h : MonoR R) : MonoR (withO P R) := by
  refine ⟨fun {lk f args s v s'} g => ?_, fun g => h.round g, fun g => h.loop g⟩
  change (match orc P f args s with | some b => some (Value.bool b, s) | none => R.call lk f args s) = _ at g
  split at g
  · cases g; exact Nat.le_refl _
  · exact h.call g
theorem withO_ab {R : Rec} (h : AbR R) : AbR (withO P R) := by
  refine ⟨fun {lk f args s v s'} hlk g => ?_, fun hlk g => h.round hlk g, fun hlk g => h.loop hlk g⟩
  change (match orc P f args s with | some b => some (Value.bool b, s) | none => R.call lk f args s) = _ at g
  split at g
  · cases g; exact Ab.refl _ _
  · exact h.call hlk g
theorem withO_le {R R' : Rec} (h : RLe R R') : RLe (withO P R) (withO P R') := by
  refine ⟨fun {lk lk' f args s r} hl g => ?_, fun hl g => h.round hl g, fun hl g => h.loop hl g⟩
  change (match orc P f args s with | some b => some (Value.bool b, s) | none => R.call lk f args s) = _ at g
  show (match orc P f args s with | some b => some (Value.bool b, s) | none => R'.call lk' f args s) = _
  split at g
  · exact g
  · exact h.call hl g

theorem ev_mono (P : Program) : ∀ n, MonoR (ev P n) := by
  intro n
  induction n with
  | zero => exact ⟨fun h => (by cases h), fun h => (by cases h), fun h => (by cases h)⟩
  | succ n ih => exact withO_mono (nextR_mono ih)
theorem ev_ab (P : Program) : ∀ n, AbR (ev P n) := by
  intro n
  induction n with
  | zero => exact ⟨fun _ h => (by cases h), fun _ h => (by cases h), fun _ h => (by cases h)⟩
  | succ n ih => exact withO_ab (nextR_ab ih)
theorem ev_le (P : Program) : ∀ {n m : Nat}, n ≤ m → RLe (ev P n) (ev P m) := by
  intro n
  induction n with
  | zero => intro m _; exact ⟨fun _ h => (by cases h), fun _ h => (by cases h), fun _ h => (by cases h)⟩
  | succ n ih =>
    intro m hm
    cases m with
    | zero => omega
    | succ m => exact withO_le (nextR_le (ih (m := m) (by omega)))

/-- A closed call, in whatever world. -/
theorem closed_ok (hmix : P.follows .mixedOrders = true) {f : FuncId} {b : Bool} {lk : Nat} {φ : Inj} {s : HS} {w : World} {args' : List Value} (h : ClosedB P f (low P s) b) (H : HR P φ s w) (hl : LR φ [] args') :
    s.nx ≤ s.nx ∧ (callFunc f args'.toArray).run P w = .ok (.enter f args'.toArray) w ∧ ∀ n ro, CallsIn (Fn ro) n P f args'.toArray w (CPost P φ lk s w (.bool b) s) := by
  obtain ⟨n, s', h1⟩ := h
  have hnil : args' = [] := List.eq_nil_of_length_eq_zero (by have := hl.1; simpa using this.symm)
  subst hnil
  let φ0 : Inj := fun id => if id < P.globals.size then φ id else none
  have e0 : ∀ id, id < P.globals.size → φ0 id = φ id := fun id h => if_pos h
  have inv : ∀ id o, (low P s).hp.get id = some o → id < P.globals.size ∧ s.hp.get id = some o ∧ plainO o = true := fun id o h => by
    rw [lowP_get] at h
    split at h
    · rename_i hlt; exact ⟨hlt, lowB_inv h⟩
    · cases h
  have h0 : HR P φ0 (low P s) w := by
    refine ⟨fun id o e => ?_, fun i j oi oj mi mj a b h3 h4 hne hwr => ?_, fun id o e => (inv id o e).1, fun g hg => ?_, Nat.le_refl _⟩
    · obtain ⟨h2, h3, h4⟩ := inv id o e
      obtain ⟨im, h5, h6⟩ := H.obj id o h3
      refine ⟨im, by rw [e0 id h2]; exact h5, ?_⟩
      cases o with
      | cells wr e cs =>
        obtain ⟨g0, c, fz, g1, g2, g3, g4, g5⟩ := h6
        refine ⟨g0, c, fz, g1, g2, g3, fun i v hv => ?_, g5⟩
        obtain ⟨v', a, b⟩ := g4 i v hv
        exact ⟨v', a, b.plain0 (List.all_eq_true.1 h4 v (List.mem_of_getElem? hv))⟩
      | map es => cases h4
      | loop L => cases h4
    · obtain ⟨a1, a2, _⟩ := inv i oi a
      obtain ⟨b1, b2, _⟩ := inv j oj b
      rw [e0 i a1] at h3
      rw [e0 j b1] at h4
      exact H.inj i j oi oj mi mj a2 b2 h3 h4 hne hwr
    · obtain ⟨im, h2, h3⟩ := H.glob g hg
      exact ⟨im, by rw [e0 g hg]; exact h2, h3⟩
  obtain ⟨_, h2, h3⟩ := (ev0_ok P hmix n).call h1 (φ := φ0) (w := w) (args' := []) h0 (LR.nil _) (Nat.le_refl _) (fun id hid _ => by
    show (if id < _ then φ id else none) = none
    exact if_neg (Nat.not_lt.2 hid))
  refine ⟨Nat.le_refl _, h2, fun n ro => (h3 n ro).mono fun e w' hp => ?_⟩
  obtain ⟨v', φ', rfl, hv, p⟩ := hp
  cases hv
  have still : ∀ r, r < w.heap.size → w'.heap[r]? = w.heap[r]? := fun r hr => p.frame r hr fun id im h3 h4 _ => by
    obtain ⟨o, ho, _⟩ := h4
    have := (inv id o ho).1; omega
  refine ⟨.bool b, φ, rfl, .bool b, Sub.refl _, fun _ _ => rfl, ⟨fun id o h4 => ?_, H.inj, H.bnd, H.glob, H.nxg⟩, Nat.le_refl _, fun _ _ h4 => h4, fun _ _ h4 => h4, fun _ _ => rfl, fun _ L h4 => ⟨L, h4⟩, p.os, p.tape, p.output, p.size, fun r hr _ => still r hr, fun id im h4 h5 _ => ?_⟩
  · obtain ⟨im, h5, h6⟩ := H.obj id o h4
    exact ⟨im, h5, by rw [still _ (HR.lt H h4 h5)]; exact h6⟩
  · obtain ⟨o, ho⟩ := Option.ne_none_iff_exists'.1 h5
    have := H.bnd id o ho; omega

theorem ev_ok (P : Program) (hmix : P.follows .mixedOrders = true) : ∀ n, RecOK P (ev P n) := by
  intro n
  induction n with
  | zero => exact ⟨fun h => (by cases h), fun h => (by cases h), fun h => (by cases h)⟩
  | succ n ih =>
    have hm := ev_mono P n
    have hab := ev_ab P n
    refine ⟨fun {lk f args s v s'} h {φ w args'} H hl hlk hfr => ?_, fun h => roundFA_sound ih hm hab hmix h, fun h => loopFA_sound ih hm hab hmix h⟩
    change (match orc P f args s with | some b => some (Value.bool b, s) | none => callFA P (ev P n) lk f args s) = _ at h
    split at h
    · rename_i b ho
      cases h
      obtain ⟨rfl, hc⟩ := orc_spec ho
      exact closed_ok hmix hc H hl
    · exact callFA_sound ih hm hab hmix h H hl hlk hfr

/-- **WHAT THE EVALUATOR ANSWERS, THE CALL ANSWERS.** -/
theorem ev_calls (P : Program) (hmix : P.follows .mixedOrders = true) {n lk : Nat} {f : FuncId} {args : List Value} {s : HS} {v : Value} {s' : HS} (h : (ev P n).call lk f args s = some (v, s'))
    {φ : Inj} {w : World} {args' : List Value} (H : HR P φ s w) (hl : LR φ args args') (hlk : lk ≤ s.nx) (hfr : Fresh φ s.nx s'.nx) :
    Calls P f args'.toArray w (CPost P φ lk s w v s') :=
  callsIn_wide.1 (((ev_ok P hmix n).call h H hl hlk hfr).2.2 0 none)
end Go.Ev
