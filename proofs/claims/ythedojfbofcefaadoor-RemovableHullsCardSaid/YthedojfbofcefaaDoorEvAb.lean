/- What a clean run leaves alone: the blocks below its lock; and no block lies beyond the names. -/
import Derived.Test.YthedojfbofcefaaDoorEvCode
namespace Go.Ev
open Go
variable {P : Program} {R : Rec} {φ : Inj} {sz lk B : Nat} {ro : Option Nat} {fr : Fr} {s : HS} {a : Act} {w : World}

def Bnd (s : HS) : Prop := ∀ id, s.hp.get id ≠ none → id < s.nx

structure Ab (lk : Nat) (s s' : HS) : Prop where
  nx : s.nx ≤ s'.nx
  lock : lk ≤ s.nx → ∀ id, id < lk → s'.hp.get id = s.hp.get id
  bnd : Bnd s → Bnd s'

theorem Ab.refl (lk : Nat) (s : HS) : Ab lk s s := ⟨Nat.le_refl _, fun _ _ _ => rfl, fun h => h⟩
theorem Ab.trans {s s1 s2 : HS} (h : Ab lk s s1) (k : Ab lk s1 s2) : Ab lk s s2 :=
  ⟨Nat.le_trans h.nx k.nx, fun hl id hid => (k.lock (Nat.le_trans hl h.nx) id hid).trans (h.lock hl id hid), fun hb => k.bnd (h.bnd hb)⟩
theorem Ab.new (s : HS) (o : AObj) : Ab lk s { hp := s.hp.put s.nx (some o), nx := s.nx + 1 } :=
  ⟨Nat.le_succ _, fun hl id hid => T.get_put_ne _ _ _ (by omega), fun hb id h => by
    simp only [T.get_put] at h
    by_cases hi : id = s.nx
    · show id < s.nx + 1; omega
    · rw [if_neg hi] at h; exact Nat.lt_succ_of_lt (hb id h)⟩
theorem Ab.put {s : HS} {i : Nat} (hl : lk ≤ i) (hg : s.hp.get i ≠ none) (o : AObj) : Ab lk s { s with hp := s.hp.put i (some o) } :=
  ⟨Nat.le_refl _, fun _ id hid => T.get_put_ne _ _ _ (by omega), fun hb id h => by
    simp only [T.get_put] at h
    by_cases hi : id = i
    · rw [hi]; exact hb i hg
    · rw [if_neg hi] at h; exact hb id h⟩
theorem Ab.del {s : HS} {i : Nat} (hl : lk ≤ i) : Ab lk s { s with hp := s.hp.put i none } :=
  ⟨Nat.le_refl _, fun _ id hid => T.get_put_ne _ _ _ (by omega), fun hb id h => by
    simp only [T.get_put] at h
    split at h
    · simp at h
    · exact hb id h⟩
theorem Ab.write {s : HS} {ad : Addr} {vs : List Value} {h : T AObj} (hw : writeA lk s.hp ad vs = some h) : Ab lk s { s with hp := h } := by
  obtain ⟨_, e, cs, hg, hlk, _, _, rfl⟩ := writeA_inv hw
  exact Ab.put hlk (by rw [hg]; simp) _

structure AbR (R : Rec) : Prop where
  call : ∀ {lk f args s v s'}, lk ≤ s.nx → R.call lk f args s = some (v, s') → Ab lk s s'
  round : ∀ {lk l args s v s'}, lk ≤ s.nx → R.round lk l args s = some (v, s') → Ab lk s s'
  loop : ∀ {lk sz c fr s sig fr' s'}, lk ≤ s.nx → R.loop lk sz c fr s = some (sig, fr', s') → Ab lk s s'

theorem buildSliceA_ab {t : TypeId} {len : Nat} {ps : List (Nat × Value)} {v : Value} {s s' : HS} (h : buildSliceA P t len ps s = some (v, s')) : Ab lk s s' := by
  unfold buildSliceA at h
  obtain ⟨_, _, h⟩ := bind_inv h
  obtain ⟨_, _, h⟩ := bind_inv h
  obtain ⟨_, _, h⟩ := bind_inv h
  split at h
  · obtain ⟨_, _, h⟩ := map_inv h
    cases h; exact Ab.new _ _
  · cases h
theorem makeSliceA_ab {t : TypeId} {l c v : Value} {s s' : HS} (h : makeSliceA P t l c s = some (v, s')) : Ab lk s s' := by
  unfold makeSliceA at h
  split at h
  · obtain ⟨_, _, h⟩ := bind_inv h
    obtain ⟨_, _, h⟩ := bind_inv h
    obtain ⟨_, _, h⟩ := bind_inv h
    obtain ⟨_, _, h⟩ := bind_inv h
    split at h
    · cases h; exact Ab.new _ _
    · cases h
  · cases h
theorem appendA_ab {t : TypeId} {x y v : Value} {s s' : HS} (h : appendA P lk t x y s = some (v, s')) : Ab lk s s' := by
  unfold appendA at h
  split at h
  · rename_i base len cap
    obtain ⟨e, _, h⟩ := bind_inv h
    obtain ⟨size, _, h⟩ := bind_inv h
    obtain ⟨by_, _, h⟩ := bind_inv h
    obtain ⟨z, _, h⟩ := bind_inv h
    obtain ⟨n, _, h⟩ := bind_inv h
    split at h
    · cases h
    · split at h
      · split at h
        · cases h; exact Ab.refl _ _
        · cases h
      · obtain ⟨new, _, h⟩ := bind_inv h
        cases base with
        | none =>
          simp only at h
          split at h
          · cases h; exact Ab.new _ _
          · cases h
        | some a =>
          simp only at h
          split at h
          · split at h
            · obtain ⟨_, hw, h⟩ := map_inv h; cases h; exact Ab.write hw
            · obtain ⟨_, _, h⟩ := map_inv h; cases h; exact Ab.new _ _
          · split at h
            · obtain ⟨_, hw, h⟩ := map_inv h; cases h; exact Ab.write hw
            · obtain ⟨old, _, h⟩ := bind_inv h
              split at h
              · split at h
                · rename_i hc
                  cases h; exact (Ab.del hc.1).trans (Ab.new { s with hp := s.hp.put a.block none } _)
                · cases h
              · cases h
  · cases h
theorem copyA_ab {t : TypeId} {x y v : Value} {s s' : HS} (h : copyA P lk t x y s = some (v, s')) : Ab lk s s' := by
  unfold copyA at h
  split at h
  · rename_i base len cap
    obtain ⟨e, _, h⟩ := bind_inv h
    obtain ⟨size, _, h⟩ := bind_inv h
    obtain ⟨m, _, h⟩ := bind_inv h
    obtain ⟨new, _, h⟩ := bind_inv h
    cases base with
    | none => cases h; exact Ab.refl _ _
    | some a =>
      simp only at h
      split at h
      · cases h; exact Ab.refl _ _
      · obtain ⟨_, hw, h⟩ := map_inv h; cases h; exact Ab.write hw
  · cases h
theorem clearA_ab {t : TypeId} {x v : Value} {s s' : HS} (h : clearA P lk t x s = some (v, s')) : Ab lk s s' := by
  unfold clearA at h
  split at h
  · cases h; exact Ab.refl _ _
  · split at h
    · cases h; exact Ab.refl _ _
    · obtain ⟨z, _, h⟩ := bind_inv h
      split at h
      · cases h
      · obtain ⟨_, hw, h⟩ := map_inv h; cases h; exact Ab.write hw
  · cases h
theorem storeV_ab {t : TypeId} {x v : Value} {s s' : HS} (h : storeV P lk s t x v = some s') : Ab lk s s' := by
  unfold storeV at h
  split at h
  · obtain ⟨n, _, h⟩ := bind_inv h
    split at h
    · obtain ⟨_, hw, h⟩ := map_inv h; subst h; exact Ab.write hw
    · cases h
  · cases h
theorem mapUpdateA_ab {t : TypeId} {m k v : Value} {s s' : HS} (h : mapUpdateA P lk t m k v s = some s') : Ab lk s s' := by
  unfold mapUpdateA at h
  obtain ⟨_, _, h⟩ := bind_inv h
  obtain ⟨_, _, h⟩ := bind_inv h
  split at h
  · split at h
    · split at h
      · rename_i hlk
        split at h
        · rename_i es hg
          obtain ⟨r, _, h⟩ := bind_inv h
          cases r with
          | none => simp only [Option.some.injEq] at h; subst h; exact Ab.put hlk (by rw [hg]; simp) _
          | some p => simp only [Option.some.injEq] at h; subst h; exact Ab.put hlk (by rw [hg]; simp) _
        · cases h
      · cases h
    · cases h
  · cases h
theorem builtinA_ab {b : Builtin} {ts : List TypeId} {args : List Value} {v : Value} {s s' : HS} (h : builtinA P lk b ts args s = some (v, s')) : Ab lk s s' := by
  unfold builtinA at h
  split at h
  · split at h
    · cases h
    · exact appendA_ab h
    · cases h
  · exact copyA_ab h
  · exact clearA_ab h
  · obtain ⟨_, _, h⟩ := map_inv h; cases h; exact Ab.refl _ _
  · cases h; exact Ab.refl _ _
  · cases h; exact Ab.refl _ _
  · cases h
theorem callA_ab (hm : AbR R) {f : Value} {args : List Value} {v : Value} {s s' : HS} (hlk : lk ≤ s.nx) (h : callA R lk f args s = some (v, s')) : Ab lk s s' := by
  unfold callA at h
  split at h
  · exact hm.call hlk h
  · split at h
    · exact hm.round hlk h
    · cases h
  · cases h

theorem opA_ab (hm : AbR R) {o : Oper} {v : Value} {s s' : HS} (hlk : lk ≤ s.nx) (h : opA P R lk fr s o = some (v, s')) : Ab lk s s' := by
  unfold opA at h
  split at h
  all_goals try (cases h; done)
  all_goals try (obtain ⟨_, rfl⟩ := val_inv h; exact Ab.refl _ _)
  all_goals try (obtain ⟨_, _, h2⟩ := bind_inv h; obtain ⟨_, rfl⟩ := val_inv h2; exact Ab.refl _ _)
  all_goals try (obtain ⟨_, _, h2⟩ := bind_inv h; obtain ⟨_, _, h3⟩ := bind_inv h2; obtain ⟨_, rfl⟩ := val_inv h3; exact Ab.refl _ _)
  all_goals try (obtain ⟨_, _, h2⟩ := bind_inv h; obtain ⟨_, _, h4⟩ := map_inv h2; cases h4; exact Ab.new _ _)
  · obtain ⟨c, h1, h2⟩ := bind_inv h
    split at h2
    · obtain ⟨_, rfl⟩ := val_inv h2; exact Ab.refl _ _
    · cases h2
  · obtain ⟨_, _, h2⟩ := bind_inv h; exact buildSliceA_ab h2
  · obtain ⟨x, h1, h2⟩ := bind_inv h
    obtain ⟨y, h3, h4⟩ := bind_inv h2
    obtain ⟨s1, h5, h6⟩ := map_inv h4
    cases h6; exact storeV_ab h5
  · obtain ⟨x, h1, h2⟩ := bind_inv h
    split at h2
    · cases h2; exact Ab.refl _ _
    · cases h2; exact Ab.refl _ _
    · cases h2; exact Ab.refl _ _
    · cases h2
  · obtain ⟨fi, h1, h2⟩ := bind_inv h
    obtain ⟨ca, h3, h4⟩ := bind_inv h2
    cases h4; exact Ab.refl _ _
  · cases h; exact Ab.new _ _
  · obtain ⟨x, h1, h2⟩ := bind_inv h
    obtain ⟨y, h3, h4⟩ := bind_inv h2
    exact makeSliceA_ab h4
  · obtain ⟨x, h1, h2⟩ := bind_inv h
    obtain ⟨lo, h3, h4⟩ := bind_inv h2
    obtain ⟨hi, h5, h6⟩ := bind_inv h4
    obtain ⟨mx, h7, h8⟩ := bind_inv h6
    obtain ⟨h9, rfl⟩ := val_inv h8; exact Ab.refl _ _
  · obtain ⟨x, h1, h2⟩ := bind_inv h
    obtain ⟨y, h3, h4⟩ := bind_inv h2
    obtain ⟨z, h5, h6⟩ := bind_inv h4
    obtain ⟨s1, h7, h8⟩ := map_inv h6
    cases h8; exact mapUpdateA_ab h7
  · obtain ⟨x, h1, h2⟩ := bind_inv h
    split at h2
    · obtain ⟨_, rfl⟩ := val_inv h2; exact Ab.refl _ _
    · cases h2
  · obtain ⟨args, h1, h2⟩ := bind_inv h
    split at h2
    · exact builtinA_ab h2
    · obtain ⟨fv, h3, h4⟩ := bind_inv h2; exact callA_ab hm hlk h4
    · cases h2

theorem stepA_ab (hm : AbR R) {ops : List Oper} {o : Oper} {s s' : HS} {fr' : Fr} (hlk : lk ≤ s.nx) (h : stepA P R lk sz ops fr s o = some (fr', s')) : Ab lk s s' := by
  unfold stepA at h
  obtain ⟨b, h1, h2⟩ := bind_inv h
  split at h2
  · obtain ⟨⟨v, s1⟩, h3, h4⟩ := bind_inv h2
    obtain ⟨fr1, h5, h6⟩ := map_inv h4
    cases h6; exact opA_ab hm hlk h3
  · obtain ⟨fr1, h5, h6⟩ := map_inv h2
    cases h6; exact Ab.refl _ _

theorem opsA_ab (hm : AbR R) {ops : List Oper} : ∀ {os : List Oper} {fr fr' : Fr} {s s' : HS}, lk ≤ s.nx → opsA P R lk sz ops os fr s = some (fr', s') → Ab lk s s' := by
  intro os
  induction os with
  | nil => intro fr fr' s s' _ h; cases h; exact Ab.refl _ _
  | cons o os ih =>
    intro fr fr' s s' hlk h
    obtain ⟨⟨fr1, s1⟩, h1, h2⟩ := bind_inv h
    have := stepA_ab hm hlk h1
    exact this.trans (ih (Nat.le_trans hlk this.nx) h2)

def inBad (bad : List (Nat × Nat)) (id : Nat) : Bool := bad.any (fun p => decide (p.1 ≤ id ∧ id < p.2))
theorem inBad_cons (lo hi : Nat) (r : List (Nat × Nat)) (id : Nat) : inBad ((lo, hi) :: r) id = (decide (lo ≤ id ∧ id < hi) || inBad r id) := rfl

theorem hide_get : ∀ (bad : List (Nat × Nat)) (h : T AObj) (id : Nat), (hideA h bad).get id = bif inBad bad id then none else h.get id := by
  intro bad
  induction bad with
  | nil => intro h id; rfl
  | cons p r ih =>
    intro h id
    obtain ⟨lo, hi⟩ := p
    rw [hideA, ih, inBad_cons]
    have key : ∀ (n : Nat) (h : T AObj), ((List.range n).foldl (fun h i => h.put (lo + i) none) h).get id = if lo ≤ id ∧ id < lo + n then none else h.get id := by
      intro n
      induction n with
      | zero => intro h; simp; intro h1 h2; omega
      | succ n ihn =>
        intro h
        rw [List.range_succ, List.foldl_append]
        simp only [List.foldl_cons, List.foldl_nil]
        rw [T.get_put, ihn]
        by_cases e : id = lo + n
        · rw [if_pos e, if_pos (by omega)]
        · rw [if_neg e]
          by_cases e2 : lo ≤ id ∧ id < lo + n
          · rw [if_pos e2, if_pos (by omega)]
          · rw [if_neg e2, if_neg (by omega)]
    rw [key]
    by_cases h1 : lo ≤ id ∧ id < hi
    · rw [if_pos (show lo ≤ id ∧ id < lo + (hi - lo) by omega)]
      cases inBad r id <;> simp [h1]
    · rw [if_neg (show ¬ (lo ≤ id ∧ id < lo + (hi - lo)) by omega)]
      simp [h1]

theorem unhide_get (g : T AObj) : ∀ (bad : List (Nat × Nat)) (h : T AObj) (id : Nat), (unhideA g h bad).get id = bif inBad bad id then g.get id else h.get id := by
  intro bad
  induction bad with
  | nil => intro h id; rfl
  | cons p r ih =>
    intro h id
    obtain ⟨lo, hi⟩ := p
    rw [unhideA, ih, inBad_cons]
    have key : ∀ (n : Nat) (h : T AObj), ((List.range n).foldl (fun h i => h.put (lo + i) (g.get (lo + i))) h).get id = if lo ≤ id ∧ id < lo + n then g.get id else h.get id := by
      intro n
      induction n with
      | zero => intro h; simp; intro h1 h2; omega
      | succ n ihn =>
        intro h
        rw [List.range_succ, List.foldl_append]
        simp only [List.foldl_cons, List.foldl_nil]
        rw [T.get_put, ihn]
        by_cases e : id = lo + n
        · rw [if_pos e, if_pos (by omega), e]
        · rw [if_neg e]
          by_cases e2 : lo ≤ id ∧ id < lo + n
          · rw [if_pos e2, if_pos (by omega)]
          · rw [if_neg e2, if_neg (by omega)]
    rw [key]
    by_cases h1 : lo ≤ id ∧ id < hi
    · rw [if_pos (show lo ≤ id ∧ id < lo + (hi - lo) by omega)]
      cases inBad r id <;> simp [h1]
    · rw [if_neg (show ¬ (lo ≤ id ∧ id < lo + (hi - lo)) by omega)]
      simp [h1]

/-- One step of a region that draws. -/
def hid (s : HS) (bad : List (Nat × Nat)) : HS := match bad with | [] => s | _ => { s with hp := hideA s.hp bad }
def unh (s s1 : HS) (bad : List (Nat × Nat)) : HS := match bad with | [] => s1 | _ => { s1 with hp := unhideA s.hp s1.hp bad }
theorem hid_nx (s : HS) (bad : List (Nat × Nat)) : (hid s bad).nx = s.nx := by cases bad <;> rfl
theorem unh_nx (s s1 : HS) (bad : List (Nat × Nat)) : (unh s s1 bad).nx = s1.nx := by cases bad <;> rfl
theorem hid_get (s : HS) (bad : List (Nat × Nat)) (id : Nat) : (hid s bad).hp.get id = if inBad bad id = true then none else s.hp.get id := by
  cases bad with
  | nil => simp [hid, inBad]
  | cons p r =>
    have := hide_get (p :: r) s.hp id
    show (hideA s.hp (p :: r)).get id = _
    rw [this]; cases inBad (p :: r) id <;> rfl
theorem unh_get (s s1 : HS) (bad : List (Nat × Nat)) (id : Nat) : (unh s s1 bad).hp.get id = if inBad bad id = true then s.hp.get id else s1.hp.get id := by
  cases bad with
  | nil => simp [unh, inBad]
  | cons p r =>
    have := unhide_get s.hp (p :: r) s1.hp id
    show (unhideA s.hp s1.hp (p :: r)).get id = _
    rw [this]; cases inBad (p :: r) id <;> rfl

theorem drawA_cons {ops os : List Oper} {o : Oper} {p : PlanRow} {ps : List PlanRow} {k : Nat} {made : List (Nat × Nat × Nat)} {s : HS} : drawA P R lk sz ops (o :: os) (p :: ps) k made fr s =
    let bad := (made.filter fun m => p.beside.contains m.1).map (·.2)
    (stepA P R (if p.bar then lk else s.nx) sz ops fr (hid s bad) o).bind fun (fr', s1) =>
      (noteA P.globals.size p k fr o (if s.nx < (unh s s1 bad).nx then (k, s.nx, (unh s s1 bad).nx) :: made else made)).bind fun made' =>
      drawA P R lk sz ops os ps (k + 1) made' fr' (unh s s1 bad) := rfl

theorem draw_ab (hm : AbR R) {lk' : Nat} (hl : lk' = lk ∨ lk' = s.nx) {ops : List Oper} {o : Oper} {fr' : Fr} {s1 : HS} {bad : List (Nat × Nat)}
    (h : stepA P R lk' sz ops fr (hid s bad) o = some (fr', s1)) (hlk : lk ≤ s.nx) : Ab lk s (unh s s1 bad) := by
  have a := stepA_ab hm (by rw [hid_nx]; rcases hl with rfl | rfl <;> omega) h
  refine ⟨by rw [unh_nx]; have := a.nx; rw [hid_nx] at this; exact this, fun _ id hid => ?_, fun hB id hne => ?_⟩
  · rw [unh_get]
    split
    · rfl
    · rename_i hnb
      have hlt : id < lk' := by rcases hl with rfl | rfl <;> omega
      rw [a.lock (by rw [hid_nx]; rcases hl with rfl | rfl <;> omega) id hlt, hid_get, if_neg hnb]
  · rw [unh_nx]
    have hBh : Bnd (hid s bad) := fun j hj => by
      rw [hid_nx]
      rw [hid_get] at hj
      split at hj
      · simp at hj
      · exact hB j hj
    rw [unh_get] at hne
    have an := a.nx
    rw [hid_nx] at an
    split at hne
    · have := hB id hne; omega
    · exact a.bnd hBh id hne

theorem drawA_ab (hm : AbR R) {ops : List Oper} : ∀ {os : List Oper} {ps : List PlanRow} {k : Nat} {made : List (Nat × Nat × Nat)} {fr fr' : Fr} {s s' : HS}, lk ≤ s.nx →
    drawA P R lk sz ops os ps k made fr s = some (fr', s') → Ab lk s s' := by
  intro os
  induction os with
  | nil =>
    intro ps k made fr fr' s s' _ h
    cases ps with
    | nil => cases h; exact Ab.refl _ _
    | cons p ps => cases h
  | cons o os ih =>
    intro ps k made fr fr' s s' hlk h
    cases ps with
    | nil => cases h
    | cons p ps =>
      rw [drawA_cons] at h
      obtain ⟨⟨fr1, s1⟩, h1, h2⟩ := bind_inv h
      obtain ⟨made', _, h3⟩ := bind_inv h2
      have ab := draw_ab (lk := lk) hm (by cases p.bar <;> simp) h1 hlk
      exact ab.trans (ih (Nat.le_trans hlk ab.nx) h3)

theorem codeA_ab (hm : AbR R) : ∀ {c : Code} {fr fr' : Fr} {s s' : HS} {sig : Sig}, lk ≤ s.nx → codeA P R lk sz c fr s = some (sig, fr', s') → Ab lk s s' := by
  intro c
  induction c with
  | skip => intro fr fr' s s' sig _ h; cases h; exact Ab.refl _ _
  | label l => intro fr fr' s s' sig _ h; cases h; exact Ab.refl _ _
  | region id ops draw =>
    intro fr fr' s s' sig hlk h
    cases draw with
    | false => obtain ⟨⟨f1, s1⟩, h1, h2⟩ := map_inv h; cases h2; exact opsA_ab hm hlk h1
    | true =>
      obtain ⟨pl, h0, h⟩ := bind_inv h
      obtain ⟨⟨f1, s1⟩, h1, h2⟩ := map_inv h; cases h2; exact drawA_ab hm hlk h1
  | seq x y ihx ihy =>
    intro fr fr' s s' sig hlk h
    obtain ⟨⟨sg, f1, s1⟩, h1, h2⟩ := bind_inv h
    have := ihx hlk h1
    cases sg with
    | normal => exact this.trans (ihy (Nat.le_trans hlk this.nx) h2)
    | exit i => cases h2; exact this
    | ret => cases h2; exact this
  | cond c x y ihx ihy =>
    intro fr fr' s s' sig hlk h
    obtain ⟨v, h1, h2⟩ := bind_inv h
    split at h2
    · split at h2
      · exact ihx hlk h2
      · exact ihy hlk h2
    · cases h2
  | block id c ih =>
    intro fr fr' s s' sig hlk h
    obtain ⟨⟨sg, f1, s1⟩, h1, h2⟩ := map_inv h
    have := ih hlk h1
    cases sg with
    | normal => cases h2; exact this
    | exit i => simp only at h2; split at h2 <;> (cases h2; exact this)
    | ret => cases h2; exact this
  | loop c ih => intro fr fr' s s' sig hlk h; exact hm.loop hlk h
  | rangeFunc f ps assign body ih1 ih2 =>
    intro fr fr' s s' sig hlk h
    obtain ⟨fv, h1, h2⟩ := bind_inv h
    obtain ⟨⟨v, s2⟩, h3, h4⟩ := bind_inv h2
    have a1 : Ab lk s s2 := by
      split at h3
      · exact (Ab.new s _).trans (hm.call (Nat.le_succ_of_le hlk) h3)
      · cases h3
    have a2 := a1.trans (Ab.del (s := s2) (i := s.nx) hlk)
    simp only at h4
    repeat' (first | (split at h4))
    all_goals first | (cases h4; done) | (simp only [Option.some.injEq, Prod.mk.injEq] at h4; obtain ⟨_, _, rfl⟩ := h4; exact a2)
  | exit id => intro fr fr' s s' sig _ h; cases h; exact Ab.refl _ _
  | scope c ih => intro fr fr' s s' sig _ h; cases h
  | goto l => intro fr fr' s s' sig _ h; cases h
  | ret => intro fr fr' s s' sig _ h; cases h; exact Ab.refl _ _
  | refuse y => intro fr fr' s s' sig _ h; cases h

theorem nextR_ab {R : Rec} (ih : AbR R) : AbR (nextR P R) := by
  refine ⟨fun {lk f args s v s'} hlk h => ?_, fun {lk l args s v s'} hlk h => ?_, fun {lk sz c fr s sig fr' s'} hlk h => ?_⟩
  · change callFA P R lk f args s = some (v, s') at h
    unfold callFA at h
    split at h
    · cases h
    · split at h
      · cases h
      · split at h
        · cases h
        · obtain ⟨⟨sg, f1, s1⟩, h1, h2⟩ := bind_inv h
          have := codeA_ab ih hlk h1
          cases sg with
          | exit i => cases h2
          | normal => obtain ⟨vs, _, h3⟩ := map_inv h2; cases h3; exact this
          | ret => obtain ⟨vs, _, h3⟩ := map_inv h2; cases h3; exact this
  · change roundFA P R lk l args s = some (v, s') at h
    unfold roundFA at h
    split at h
    · cases h
    · rename_i hl
      simp only [Decidable.not_not] at hl
      obtain ⟨L, _, h⟩ := bind_inv h
      split at h
      · cases h
      · obtain ⟨fr, _, h⟩ := bind_inv h
        obtain ⟨⟨sg, f1, s1⟩, h1, h⟩ := bind_inv h
        have a1 := codeA_ab ih hlk h1
        cases sg with
        | exit i => cases h
        | ret => cases h
        | normal =>
          obtain ⟨L1, g1, h⟩ := bind_inv h
          split at h
          · obtain ⟨⟨sg, f2, s2⟩, h2, h⟩ := bind_inv h
            have live : ∀ {h : T AObj} {L : ALoop}, loopAt h l = some L → h.get l ≠ none := fun {h L} e => by
              unfold loopAt at e
              split at e
              · rename_i e1; rw [e1]; simp
              · cases e
            have a2 := Ab.put (s := s1) hl (live g1) (.loop { L1 with state := .busy })
            have a3 := codeA_ab ih (Nat.le_trans hlk (a1.trans a2).nx) h2
            obtain ⟨L2, g2, h⟩ := bind_inv h
            have a4 := fun o => ((a1.trans a2).trans a3).trans (Ab.put (s := s2) hl (live g2) o)
            cases sg <;> (cases h; exact a4 _)
          · cases h
  · change loopFA P R lk sz c fr s = some (sig, fr', s') at h
    unfold loopFA at h
    obtain ⟨⟨sg, f1, s1⟩, h1, h2⟩ := bind_inv h
    have := codeA_ab ih hlk h1
    cases sg with
    | normal => exact this.trans (ih.loop (Nat.le_trans hlk this.nx) h2)
    | exit i => cases h2; exact this
    | ret => cases h2; exact this

theorem ev0_ab (P : Program) : ∀ n, AbR (ev0 P n) := by
  intro n
  induction n with
  | zero => exact ⟨fun _ h => (by cases h), fun _ h => (by cases h), fun _ h => (by cases h)⟩
  | succ n ih => exact nextR_ab ih
end Go.Ev
