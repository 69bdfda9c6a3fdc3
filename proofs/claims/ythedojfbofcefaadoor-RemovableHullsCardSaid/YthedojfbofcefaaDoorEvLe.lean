/- More fuel and a lower lock: the same answer. -/
import Derived.Test.YthedojfbofcefaaDoorEvSound
namespace Go.Ev
open Go
variable {P : Program}

structure RLe (R R' : Rec) : Prop where
  call : ∀ {lk lk' f args s r}, lk' ≤ lk → R.call lk f args s = some r → R'.call lk' f args s = some r
  round : ∀ {lk lk' l args s r}, lk' ≤ lk → R.round lk l args s = some r → R'.round lk' l args s = some r
  loop : ∀ {lk lk' sz c fr s r}, lk' ≤ lk → R.loop lk sz c fr s = some r → R'.loop lk' sz c fr s = some r

theorem bind_le {α β : Type} {x y : Option α} {f g : α → Option β} {r : β} (h : x.bind f = some r) (hx : ∀ a, x = some a → y = some a) (hf : ∀ a, f a = some r → g a = some r) : y.bind g = some r := by
  obtain ⟨a, h1, h2⟩ := bind_inv h
  rw [hx a h1]; exact hf a h2

theorem map_le {α β : Type} {x y : Option α} {f : α → β} {r : β} (h : x.map f = some r) (hx : ∀ a, x = some a → y = some a) : y.map f = some r := by
  obtain ⟨a, h1, h2⟩ := map_inv h
  rw [hx a h1, ← h2]; rfl

theorem writeA_le {lk lk' : Nat} (hl : lk' ≤ lk) {h h' : T AObj} {a : Addr} {vs : List Value} (e : writeA lk h a vs = some h') : writeA lk' h a vs = some h' := by
  unfold writeA at *
  split at e
  · rename_i h1 h2
    split at e
    · rename_i hc
      rw [if_pos ⟨Nat.le_trans hl hc.1, hc.2⟩]; exact e
    · cases e
  · cases e

theorem storeV_le {lk lk' : Nat} (hl : lk' ≤ lk) {s s' : HS} {t : TypeId} {a v : Value} (e : storeV P lk s t a v = some s') : storeV P lk' s t a v = some s' := by
  unfold storeV at *
  split at e
  · refine bind_le e (fun _ h => h) (fun n h => ?_)
    split at h
    · rename_i hc; rw [if_pos hc]; exact map_le h (fun _ h => writeA_le hl h)
    · cases h
  · cases e

theorem mapUpdateA_le {lk lk' : Nat} (hl : lk' ≤ lk) {s s' : HS} {t : TypeId} {m k v : Value} (e : mapUpdateA P lk t m k v s = some s') : mapUpdateA P lk' t m k v s = some s' := by
  unfold mapUpdateA at *
  refine bind_le e (fun _ h => h) (fun x h => ?_)
  refine bind_le h (fun _ h => h) (fun kind h => ?_)
  split at h
  · rename_i hk; rw [if_pos hk]
    split at h
    · split at h
      · rename_i hlk; rw [if_pos (Nat.le_trans hl hlk)]; exact h
      · cases h
    · cases h
  · cases h

theorem appendA_le {lk lk' : Nat} (hl : lk' ≤ lk) {s : HS} {t : TypeId} {x y : Value} {r : Value × HS} (e : appendA P lk t x y s = some r) : appendA P lk' t x y s = some r := by
  unfold appendA at *
  cases x <;> first | (cases e; done) | skip
  simp only at e ⊢
  refine bind_le e (fun _ h => h) (fun x1 h1_ => ?_)
  refine bind_le h1_ (fun _ h => h) (fun x2 h2_ => ?_)
  refine bind_le h2_ (fun _ h => h) (fun x3 h3_ => ?_)
  refine bind_le h3_ (fun _ h => h) (fun x4 h4_ => ?_)
  refine bind_le h4_ (fun _ h => h) (fun x5 h5_ => ?_)
  split at h5_
  · cases h5_
  rename_i hc
  rw [if_neg hc]
  split at h5_
  · rename_i h0; rw [if_pos h0]; exact h5_
  rename_i h0
  rw [if_neg h0]
  refine bind_le h5_ (fun _ h => h) (fun new h6_ => ?_)
  split at h6_
  · exact h6_
  · split at h6_
    · rename_i hu
      rw [if_pos hu]
      split at h6_
      · rename_i hv; rw [if_pos hv]; exact map_le h6_ (fun _ h => writeA_le hl h)
      · rename_i hv; rw [if_neg hv]; exact h6_
    · rename_i hu
      rw [if_neg hu]
      split at h6_
      · rename_i hv; rw [if_pos hv]; exact map_le h6_ (fun _ h => writeA_le hl h)
      · rename_i hv
        rw [if_neg hv]
        refine bind_le h6_ (fun _ h => h) (fun old h7_ => ?_)
        split at h7_
        · split at h7_
          · rename_i hg
            rw [if_pos ⟨Nat.le_trans hl hg.1, hg.2⟩]; exact h7_
          · cases h7_
        · cases h7_

theorem copyA_le {lk lk' : Nat} (hl : lk' ≤ lk) {s : HS} {t : TypeId} {x y : Value} {r : Value × HS} (e : copyA P lk t x y s = some r) : copyA P lk' t x y s = some r := by
  unfold copyA at *
  cases x <;> first | (cases e; done) | skip
  simp only at e ⊢
  refine bind_le e (fun _ h => h) (fun x1 h1_ => ?_)
  refine bind_le h1_ (fun _ h => h) (fun x2 h2_ => ?_)
  refine bind_le h2_ (fun _ h => h) (fun x3 h3_ => ?_)
  refine bind_le h3_ (fun _ h => h) (fun new h4_ => ?_)
  split at h4_
  · exact h4_
  · split at h4_
    · rename_i h0; rw [if_pos h0]; exact h4_
    · rename_i h0; rw [if_neg h0]; exact map_le h4_ (fun _ h => writeA_le hl h)

theorem clearA_le {lk lk' : Nat} (hl : lk' ≤ lk) {s : HS} {t : TypeId} {x : Value} {r : Value × HS} (e : clearA P lk t x s = some r) : clearA P lk' t x s = some r := by
  unfold clearA at *
  split at e
  · exact e
  · rename_i h1
    split at e
    · rename_i h0; rw [if_pos h0]; exact e
    · rename_i h0
      rw [if_neg h0]
      refine bind_le e (fun _ h => h) (fun z h => ?_)
      split at h
      · cases h
      · rename_i hz; rw [if_neg hz]; exact map_le h (fun _ h => writeA_le hl h)
  · cases e

theorem builtinA_le {lk lk' : Nat} (hl : lk' ≤ lk) {b : Builtin} {ts : List TypeId} {args : List Value} {s : HS} {r : Value × HS} (e : builtinA P lk b ts args s = some r) : builtinA P lk' b ts args s = some r := by
  unfold builtinA at *
  split at e
  · split at e
    · cases e
    · exact appendA_le hl e
    · cases e
  · exact copyA_le hl e
  · exact clearA_le hl e
  · exact e
  · exact e
  · exact e
  · cases e

theorem callA_le {R R' : Rec} (hR : RLe R R') {lk lk' : Nat} (hl : lk' ≤ lk) {f : Value} {args : List Value} {s : HS} {r : Value × HS} (e : callA R lk f args s = some r) : callA R' lk' f args s = some r := by
  unfold callA at *
  split at e
  · exact hR.call hl e
  · split at e
    · rename_i h; rw [if_pos h]; exact hR.round hl e
    · cases e
  · cases e

theorem opA_le {R R' : Rec} (hR : RLe R R') {lk lk' : Nat} (hl : lk' ≤ lk) {fr : Fr} {s : HS} {o : Oper} {r : Value × HS} (e : opA P R lk fr s o = some r) : opA P R' lk' fr s o = some r := by
  obtain ⟨dst, op, type, pos, after, guard⟩ := o
  cases op
  case store t a x =>
    refine bind_le (x := opdA P.globals.size fr a) e (fun _ h => h) (fun x1 h1 => ?_)
    refine bind_le (x := opdA P.globals.size fr x) h1 (fun _ h => h) (fun x2 h2 => ?_)
    exact map_le h2 (fun _ h => storeV_le hl h)
  case mapUpdate t m k v =>
    refine bind_le (x := opdA P.globals.size fr m) e (fun _ h => h) (fun x1 h1 => ?_)
    refine bind_le (x := opdA P.globals.size fr k) h1 (fun _ h => h) (fun x2 h2 => ?_)
    refine bind_le (x := opdA P.globals.size fr v) h2 (fun _ h => h) (fun x3 h3 => ?_)
    exact map_le h3 (fun _ h => mapUpdateA_le hl h)
  case call c =>
    refine bind_le (x := omap (opdA P.globals.size fr) c.args.toList) e (fun _ h => h) (fun args h => ?_)
    obtain ⟨cal, cargs, ats⟩ := c
    cases cal with
    | value f => exact bind_le (x := opdA P.globals.size fr f) h (fun _ h => h) (fun f h => callA_le hR hl h)
    | invoke r m => cases h
    | builtin b => exact builtinA_le hl h
  case makeMap t r => cases r <;> exact e
  case makeFunc f fi ca => cases f <;> exact e
  all_goals exact e

theorem stepA_le {R R' : Rec} (hR : RLe R R') {lk lk' sz : Nat} (hl : lk' ≤ lk) {ops : List Oper} {fr : Fr} {s : HS} {o : Oper} {r : Fr × HS} (e : stepA P R lk sz ops fr s o = some r) : stepA P R' lk' sz ops fr s o = some r := by
  unfold stepA at *
  refine bind_le e (fun _ h => h) (fun w h => ?_)
  cases w with
  | true => exact bind_le h (fun _ h => opA_le hR hl h) (fun _ h => h)
  | false => exact h

theorem opsA_le {R R' : Rec} (hR : RLe R R') {lk lk' sz : Nat} (hl : lk' ≤ lk) {all : List Oper} {r : Fr × HS} : ∀ {ops : List Oper} {fr : Fr} {s : HS}, opsA P R lk sz all ops fr s = some r → opsA P R' lk' sz all ops fr s = some r := by
  intro ops
  induction ops with
  | nil => intro fr s h; exact h
  | cons o os ih => intro fr s h; exact bind_le h (fun _ h => stepA_le hR hl h) (fun _ h => ih h)

theorem drawA_le {R R' : Rec} (hR : RLe R R') {lk lk' sz : Nat} (hl : lk' ≤ lk) {all : List Oper} {r : Fr × HS} : ∀ {ops : List Oper} {ps : List PlanRow} {k : Nat} {made : List (Nat × Nat × Nat)} {fr : Fr} {s : HS},
    drawA P R lk sz all ops ps k made fr s = some r → drawA P R' lk' sz all ops ps k made fr s = some r := by
  intro ops
  induction ops with
  | nil => intro ps k made fr s h; cases ps <;> exact h
  | cons o os ih =>
    intro ps k made fr s h
    cases ps with
    | nil => cases h
    | cons p ps =>
      exact bind_le h (fun _ h => stepA_le hR (by cases p.bar <;> simp [hl]) h) (fun _ h => bind_le h (fun _ h => h) (fun _ h => ih h))

theorem codeA_le {R R' : Rec} (hR : RLe R R') {lk lk' sz : Nat} (hl : lk' ≤ lk) : ∀ {c : Code} {fr : Fr} {s : HS} {r : Sig × Fr × HS}, codeA P R lk sz c fr s = some r → codeA P R' lk' sz c fr s = some r := by
  intro c
  induction c with
  | skip => intro fr s r h; exact h
  | label l => intro fr s r h; exact h
  | region id ops draw =>
    intro fr s r h
    cases draw with
    | false => exact map_le h (fun _ h => opsA_le hR hl h)
    | true => exact bind_le h (fun _ h => h) (fun pl h => map_le h (fun _ h => drawA_le hR hl h))
  | seq x y ihx ihy =>
    intro fr s r h
    refine bind_le h (fun _ h => ihx h) (fun a h => ?_)
    obtain ⟨sg, f1, s1⟩ := a
    cases sg with
    | normal => exact ihy h
    | exit i => exact h
    | ret => exact h
  | cond c x y ihx ihy =>
    intro fr s r h
    refine bind_le h (fun _ h => h) (fun v h => ?_)
    split at h
    · split at h
      · rename_i ht; rw [if_pos ht]; exact ihx h
      · rename_i ht; rw [if_neg ht]; exact ihy h
    · cases h
  | block id c ih => intro fr s r h; exact map_le h (fun _ h => ih h)
  | loop c ih => intro fr s r h; exact hR.loop hl h
  | rangeFunc f ps assign body ih1 ih2 =>
    intro fr s r h
    refine bind_le h (fun _ h => h) (fun fv h => ?_)
    refine bind_le h (fun x hx => ?_) (fun _ h => h)
    split at hx
    · exact hR.call hl hx
    · cases hx
  | exit id => intro fr s r h; exact h
  | scope c ih => intro fr s r h; cases h
  | goto l => intro fr s r h; cases h
  | ret => intro fr s r h; exact h
  | refuse y => intro fr s r h; cases h

theorem callFA_le {R R' : Rec} (hR : RLe R R') {lk lk' : Nat} (hl : lk' ≤ lk) {f : FuncId} {args : List Value} {s : HS} {r : Value × HS} (h : callFA P R lk f args s = some r) : callFA P R' lk' f args s = some r := by
  unfold callFA at *
  split at h
  · cases h
  · split at h
    · cases h
    · rename_i hb
      split at h
      · cases h
      · rename_i hn
        rw [if_neg hn]
        exact bind_le h (fun _ h => codeA_le hR hl h) (fun _ h => h)

theorem roundFA_le {R R' : Rec} (hR : RLe R R') {lk lk' : Nat} (hl : lk' ≤ lk) {l : Nat} {args : List Value} {s : HS} {r : Value × HS} (h : roundFA P R lk l args s = some r) : roundFA P R' lk' l args s = some r := by
  unfold roundFA at *
  split at h
  · cases h
  rename_i hlk
  rw [if_neg (by omega)]
  refine bind_le h (fun _ h => h) (fun L h => ?_)
  split at h
  · cases h
  rename_i ha
  rw [if_neg ha]
  refine bind_le h (fun _ h => h) (fun fr h => ?_)
  refine bind_le h (fun _ h => codeA_le hR hl h) (fun x h => ?_)
  obtain ⟨sg, f1, s1⟩ := x
  cases sg with
  | exit i => cases h
  | ret => cases h
  | normal =>
    refine bind_le h (fun _ h => h) (fun L1 h => ?_)
    split at h
    · rename_i hst
      exact bind_le h (fun _ h => codeA_le hR hl h) (fun _ h => h)
    · cases h

theorem loopFA_le {R R' : Rec} (hR : RLe R R') {lk lk' sz : Nat} (hl : lk' ≤ lk) {c : Code} {fr : Fr} {s : HS} {r : Sig × Fr × HS} (h : loopFA P R lk sz c fr s = some r) : loopFA P R' lk' sz c fr s = some r := by
  unfold loopFA at *
  refine bind_le h (fun _ h => codeA_le hR hl h) (fun x h => ?_)
  obtain ⟨sg, f1, s1⟩ := x
  cases sg with
  | normal => exact hR.loop hl h
  | exit i => exact h
  | ret => exact h

theorem nextR_le {R R' : Rec} (h : RLe R R') : RLe (nextR P R) (nextR P R') := ⟨fun hl g => callFA_le h hl g, fun hl g => roundFA_le h hl g, fun hl g => loopFA_le h hl g⟩

theorem ev0_le (P : Program) : ∀ {n m : Nat}, n ≤ m → RLe (ev0 P n) (ev0 P m) := by
  intro n
  induction n with
  | zero => intro m _; exact ⟨fun _ h => (by cases h), fun _ h => (by cases h), fun _ h => (by cases h)⟩
  | succ n ih =>
    intro m hm
    cases m with
    | zero => omega
    | succ m => exact nextR_le (ih (m := m) (by omega))
end Go.Ev
