import Derived.Test.YthedojfbofcefaaDoorEvAb
/- A region that draws its order: whatever order the model draws, the clean run in the text's order tells what comes of it. -/
namespace Go.Ev
open Go
variable {P : Program} {R : Rec} {φ : Inj} {sz lk B : Nat} {ro : Option Nat} {fr : Fr} {s : HS} {a : Act} {w : World}

/-! ### An operation looks at its operands alone -/
theorem omap_congr {α β : Type} {f g : α → Option β} : ∀ {xs : List α}, (∀ x ∈ xs, f x = g x) → omap f xs = omap g xs := by
  intro xs
  induction xs with
  | nil => intro _; rfl
  | cons x xs ih => intro h; simp only [omap]; rw [h x (by simp), ih (fun y hy => h y (by simp [hy]))]

theorem opA_congr {fr2 : Fr} (o : Oper) (h : ∀ x ∈ o.op.operands, opdA P.globals.size fr x = opdA P.globals.size fr2 x) : opA P R lk fr s o = opA P R lk fr2 s o := by
  obtain ⟨dst, op, type, pos, after, guard⟩ := o
  have pairs : ∀ ps : Array (Nat × Operand), (∀ x ∈ (ps.toList.map (·.2)).toArray, opdA P.globals.size fr x = opdA P.globals.size fr2 x) →
      omap (fun (p : Nat × Operand) => (opdA P.globals.size fr p.2).map fun v => (p.1, v)) ps.toList = omap (fun (p : Nat × Operand) => (opdA P.globals.size fr2 p.2).map fun v => (p.1, v)) ps.toList :=
    fun ps hp => omap_congr fun p hm => by rw [hp p.2 (by simp only [List.mem_toArray, List.mem_map]; exact ⟨p, hm, rfl⟩)]
  have opd : ∀ x : Option Operand, (∀ y, x = some y → opdA P.globals.size fr y = opdA P.globals.size fr2 y) → opdO P.globals.size fr x = opdO P.globals.size fr2 x := fun x hx => by
    cases x with
    | none => rfl
    | some y => simp only [opdO]; rw [hx y rfl]
  cases op <;> simp only [Op.operands] at h <;> simp only [opA]
  case build t ps => rw [pairs ps h]
  case buildSlice t n ps => rw [pairs ps h]
  case makeFunc fn first captured =>
    cases fn <;> simp only
    rw [omap_congr (xs := first.toList) (g := opdA P.globals.size fr2) fun x hx => h x (by simp at hx; simp [hx]),
      omap_congr (xs := captured.toList) (g := opdA P.globals.size fr2) fun x hx => h x (by simp at hx; simp [hx])]
  case call c =>
    have h1 : omap (opdA P.globals.size fr) c.args.toList = omap (opdA P.globals.size fr2) c.args.toList := omap_congr fun x hx => h x (by simp [Call.operands]; right; simpa using hx)
    rw [h1]
    cases hc : c.callee with
    | value f => simp only; rw [h f (by simp [Call.operands, hc])]
    | invoke r m => rfl
    | builtin b => rfl
  case slice t x lo hi mx =>
    rw [h x (by simp), opd lo (fun y hy => h y (by simp [hy])), opd hi (fun y hy => h y (by simp [hy])), opd mx (fun y hy => h y (by simp [hy]))]
  case makeMap t r => cases r <;> rfl
  all_goals (first | rfl | (simp_all; done))

/-- The value of a step. -/
def stepV (P : Program) (R : Rec) (lk : Nat) (ops : List Oper) (fr : Fr) (s : HS) (o : Oper) : Option (Value × HS) :=
  (wantedA ops fr o).bind fun w => if w then opA P R lk fr s o else some (undef, s)

theorem stepA_eq (ops : List Oper) (o : Oper) : stepA P R lk sz ops fr s o = (stepV P R lk ops fr s o).bind fun p => (setA sz fr o.dst p.1).map fun fr' => (fr', p.2) := by
  unfold stepA stepV
  cases wantedA ops fr o with
  | none => rfl
  | some b => cases b <;> simp

theorem stepV_congr {fr2 : Fr} {ops : Array Oper} {o : Oper} (h : ∀ t ∈ o.looksAt ops, fr.get t = fr2.get t) : stepV P R lk ops.toList fr s o = stepV P R lk ops.toList fr2 s o := by
  unfold stepV
  have h1 : wantedA ops.toList fr o = wantedA ops.toList fr2 o := by
    unfold wantedA
    cases hg : o.guard with
    | none => rfl
    | some gw =>
      obtain ⟨j, want⟩ := gw
      simp only
      cases hj : ops.toList[j]? with
      | none => rfl
      | some g =>
        simp only [Option.bind_some]
        cases hd : g.dst with
        | none => rfl
        | some d =>
          simp only [Option.bind_some]
          rw [h d ?_]
          unfold Oper.looksAt
          refine List.mem_append_right _ ?_
          rw [hg]
          rw [Array.getElem?_toList] at hj
          simp [hj, hd]
  rw [h1, opA_congr (fr2 := fr2) o (fun x hx => ?_)]
  cases x with
  | tmp t => exact h t (List.mem_append_left _ (List.mem_filterMap.2 ⟨.tmp t, by simpa using hx, rfl⟩))
  | _ => rfl

/-- An operation that is not loud knows nothing of memory. -/
theorem opA_pure {o : Oper} {v : Value} {s' : HS} (hl : loudA o.op = false) (h : opA P R lk fr s o = some (v, s')) : s' = s ∧ ∀ lk2 s2, opA P R lk2 fr s2 o = some (v, s2) := by
  obtain ⟨dst, op, type, pos, after, guard⟩ := o
  cases op <;> simp only [loudA, Bool.true_eq_false] at hl <;> simp only [opA] at h ⊢
  case move x => obtain ⟨h1, rfl⟩ := val_inv h; exact ⟨rfl, fun _ s2 => by rw [h1]; rfl⟩
  case assign x => obtain ⟨h1, rfl⟩ := val_inv h; exact ⟨rfl, fun _ s2 => by rw [h1]; rfl⟩
  case pick c x y =>
    obtain ⟨u, h1, h2⟩ := bind_inv h
    cases u <;> first | (cases h2; done) | skip
    obtain ⟨h3, rfl⟩ := val_inv h2
    exact ⟨rfl, fun _ s2 => by rw [h1]; simp only [Option.bind_some]; rw [h3]; rfl⟩
  case build t ps =>
    obtain ⟨u, h1, h2⟩ := bind_inv h
    obtain ⟨h3, rfl⟩ := val_inv h2
    exact ⟨rfl, fun _ s2 => by rw [h1]; simp only [Option.bind_some]; rw [h3]; rfl⟩
  case nilCheck x =>
    obtain ⟨u, h1, h2⟩ := bind_inv h
    rw [h1]; simp only [Option.bind_some]
    split at h2 <;> (cases h2; try exact ⟨rfl, fun _ s2 => rfl⟩)
  case binOp op t x y t2 =>
    obtain ⟨u, h1, h2⟩ := bind_inv h
    obtain ⟨u2, h3, h4⟩ := bind_inv h2
    obtain ⟨h5, rfl⟩ := val_inv h4
    exact ⟨rfl, fun _ s2 => by rw [h1, h3]; simp only [Option.bind_some]; rw [h5]; rfl⟩
  case unOp op t x =>
    obtain ⟨u, h1, h2⟩ := bind_inv h
    obtain ⟨h3, rfl⟩ := val_inv h2
    exact ⟨rfl, fun _ s2 => by rw [h1]; simp only [Option.bind_some]; rw [h3]; rfl⟩
  case convert t t2 x =>
    obtain ⟨u, h1, h2⟩ := bind_inv h
    obtain ⟨h3, rfl⟩ := val_inv h2
    exact ⟨rfl, fun _ s2 => by rw [h1]; simp only [Option.bind_some]; rw [h3]; rfl⟩
  case makeFunc fn fi ca =>
    cases fn <;> simp only at h ⊢ <;> first | (cases h; done) | skip
    obtain ⟨u, h1, h2⟩ := bind_inv h
    obtain ⟨u2, h3, h4⟩ := bind_inv h2
    cases h4
    exact ⟨rfl, fun _ s2 => by rw [h1, h3]; rfl⟩
  case fieldAddr t x f =>
    obtain ⟨u, h1, h2⟩ := bind_inv h
    obtain ⟨h3, rfl⟩ := val_inv h2
    exact ⟨rfl, fun _ s2 => by rw [h1]; simp only [Option.bind_some]; rw [h3]; rfl⟩
  case field t x f =>
    obtain ⟨u, h1, h2⟩ := bind_inv h
    obtain ⟨h3, rfl⟩ := val_inv h2
    exact ⟨rfl, fun _ s2 => by rw [h1]; simp only [Option.bind_some]; rw [h3]; rfl⟩
  case indexAddr t x i =>
    obtain ⟨u, h1, h2⟩ := bind_inv h
    obtain ⟨u2, h3, h4⟩ := bind_inv h2
    obtain ⟨h5, rfl⟩ := val_inv h4
    exact ⟨rfl, fun _ s2 => by rw [h1, h3]; simp only [Option.bind_some]; rw [h5]; rfl⟩
  case index t x i =>
    obtain ⟨u, h1, h2⟩ := bind_inv h
    obtain ⟨u2, h3, h4⟩ := bind_inv h2
    obtain ⟨h5, rfl⟩ := val_inv h4
    exact ⟨rfl, fun _ s2 => by rw [h1, h3]; simp only [Option.bind_some]; rw [h5]; rfl⟩
  case extract t i =>
    obtain ⟨u, h1, h2⟩ := bind_inv h
    rw [h1]; simp only [Option.bind_some]
    split at h2
    · obtain ⟨h3, rfl⟩ := val_inv h2
      exact ⟨rfl, fun _ s2 => by rw [h3]; rfl⟩
    · cases h2

theorem stepV_pure {ops : List Oper} {o : Oper} {v : Value} {s' : HS} (hl : loudA o.op = false) (h : stepV P R lk ops fr s o = some (v, s')) : s' = s ∧ ∀ lk2 s2, stepV P R lk2 ops fr s2 o = some (v, s2) := by
  unfold stepV at h ⊢
  obtain ⟨b, h1, h2⟩ := bind_inv h
  rw [h1]
  cases b with
  | true =>
    simp only [if_true] at h2
    obtain ⟨h3, h4⟩ := opA_pure hl h2
    exact ⟨h3, fun lk2 s2 => by simp [h4 lk2 s2]⟩
  | false =>
    simp only [Bool.false_eq_true, if_false, Option.some.injEq, Prod.mk.injEq] at h2
    obtain ⟨rfl, rfl⟩ := h2
    exact ⟨rfl, fun lk2 s2 => by simp⟩

/-- A load leaves memory alone, and looks at one block. -/
theorem opA_load {o : Oper} {v : Value} {s' : HS} (hl : isLoad o.op = true) (h : opA P R lk fr s o = some (v, s')) : s' = s ∧ ∃ b, loadBlk P.globals.size fr o = some b ∧ s.hp.get b ≠ none ∧
    ∀ lk2 (s2 : HS), s2.hp.get b = s.hp.get b → opA P R lk2 fr s2 o = some (v, s2) := by
  obtain ⟨dst, op, type, pos, after, guard⟩ := o
  cases op <;> simp only [isLoad, Bool.false_eq_true] at hl
  rename_i t a
  simp only [opA] at h ⊢
  obtain ⟨u, h1, h2⟩ := bind_inv h
  obtain ⟨h3, rfl⟩ := val_inv h2
  refine ⟨rfl, ?_⟩
  unfold loadV at h3
  split at h3
  · rename_i ad
    refine ⟨ad.block, by unfold loadBlk; simp only [h1], ?_, fun lk2 s2 he => ?_⟩
    · intro hn
      obtain ⟨⟨n, g⟩, _, h5⟩ := bind_inv h3
      obtain ⟨cs, h6, _⟩ := bind_inv h5
      unfold readA at h6
      rw [hn] at h6
      split at h6
      · rename_i h7; cases h7
      · cases h6
    · rw [h1]
      simp only [Option.bind_some]
      have : loadV P s2.hp t (.pointer (some ad)) = some v := by
        rw [← h3]
        show ((tyA P t).bind fun x => (readA s2.hp ad x.1).bind (packA x.2)) = (tyA P t).bind fun x => (readA s'.hp ad x.1).bind (packA x.2)
        have hr : ∀ n, readA s2.hp ad n = readA s'.hp ad n := fun n => by unfold readA; rw [he]
        simp only [hr]
      rw [this]; rfl
  · cases h3

theorem stepV_load {ops : List Oper} {o : Oper} {v : Value} {s' : HS} (hl : isLoad o.op = true) (h : stepV P R lk ops fr s o = some (v, s')) : s' = s := by
  unfold stepV at h
  obtain ⟨b, h1, h2⟩ := bind_inv h
  cases b with
  | true => exact (opA_load hl h2).1
  | false =>
    simp only [Bool.false_eq_true, if_false, Option.some.injEq, Prod.mk.injEq] at h2
    exact h2.2.symm

theorem stepV_quiet {ops : List Oper} {o : Oper} {v : Value} {s' : HS} (hl : isLoad o.op = true) (hg : o.guard = none) (h : stepV P R lk ops fr s o = some (v, s')) : s' = s ∧ ∃ b, loadBlk P.globals.size fr o = some b ∧ s.hp.get b ≠ none ∧
    ∀ lk2 (s2 : HS), s2.hp.get b = s.hp.get b → stepV P R lk2 ops fr s2 o = some (v, s2) := by
  have hw : wantedA ops fr o = some true := by unfold wantedA; rw [hg]
  unfold stepV at h ⊢
  rw [hw] at h ⊢
  simp only [Option.bind_some, if_true] at h ⊢
  exact opA_load hl h

/-! ### The frame behind some of the operations -/
def dstOf (ops : Array Oper) (k : Nat) : Option Tmp := (ops[k]?).bind (·.dst)
def wrT (f0 : Fr) (ops : Array Oper) (V : Nat → Value) (E : Nat → Bool) : Nat → Fr
  | 0 => f0
  | k + 1 => match E k, dstOf ops k with
    | true, some d => (wrT f0 ops V E k).put d (some (V k))
    | _, _ => wrT f0 ops V E k

theorem wrT_agree {f0 : Fr} {ops : Array Oper} {V : Nat → Value} {E E' : Nat → Bool} {t : Nat} : ∀ m, (∀ j, j < m → dstOf ops j = some t → E j = E' j) → (wrT f0 ops V E m).get t = (wrT f0 ops V E' m).get t := by
  intro m
  induction m with
  | zero => intro _; rfl
  | succ m ih =>
    intro h
    have ih' := ih (fun j hj => h j (by omega))
    simp only [wrT]
    cases hd : dstOf ops m with
    | none => cases E m <;> cases E' m <;> exact ih'
    | some d =>
      by_cases hdt : d = t
      · subst hdt
        rw [h m (by omega) hd]
        cases E' m with
        | true => simp only; rw [T.get_put_eq, T.get_put_eq]
        | false => exact ih'
      · cases E m <;> cases E' m <;> simp only <;> (try rw [T.get_put_ne _ _ _ (Ne.symm hdt)]) <;> (try rw [T.get_put_ne _ _ _ (Ne.symm hdt)]) <;> exact ih'

theorem wrT_lt {f0 : Fr} {ops : Array Oper} {V : Nat → Value} {i : Nat} : ∀ m, i ≤ m → wrT f0 ops V (fun j => decide (j < i)) m = wrT f0 ops V (fun _ => true) i := by
  intro m
  induction m with
  | zero => intro h; have : i = 0 := by omega
            subst this; rfl
  | succ m ih =>
    intro h
    by_cases hm : i ≤ m
    · simp only [wrT]
      rw [decide_eq_false (by omega)]
      exact ih hm
    · have : i = m + 1 := by omega
      subst this
      have key : ∀ k, k ≤ m + 1 → wrT f0 ops V (fun j => decide (j < m + 1)) k = wrT f0 ops V (fun _ => true) k := by
        intro k
        induction k with
        | zero => intro _; rfl
        | succ k ihk =>
          intro hk
          simp only [wrT]
          rw [decide_eq_true (by omega), ihk (by omega)]
      exact key (m + 1) (Nat.le_refl _)

/-- One more. -/
theorem wrT_more {f0 : Fr} {ops : Array Oper} {V : Nat → Value} {E : Nat → Bool} {i t : Nat} : ∀ m, i < m → E i = false → (∀ j, i < j → j < m → ∀ d, dstOf ops i = some d → dstOf ops j = some d → E j = false) →
    (wrT f0 ops V (fun j => E j || decide (j = i)) m).get t = if dstOf ops i = some t then some (V i) else (wrT f0 ops V E m).get t := by
  intro m
  induction m with
  | zero => intro h; omega
  | succ m ih =>
    intro h hE hlast
    by_cases hm : i = m
    · subst hm
      have same : ∀ k, k ≤ i → wrT f0 ops V (fun j => E j || decide (j = i)) k = wrT f0 ops V E k := by
        intro k
        induction k with
        | zero => intro _; rfl
        | succ k ihk =>
          intro hk
          simp only [wrT]
          rw [ihk (by omega), decide_eq_false (show ¬ k = i by omega), Bool.or_false]
      simp only [wrT]
      rw [same i (Nat.le_refl _), hE]
      simp only [decide_true, Bool.or_true]
      cases hd : dstOf ops i with
      | none => simp
      | some d =>
        by_cases hdt : d = t
        · subst hdt; simp [T.get_put_eq]
        · simp [T.get_put_ne _ _ _ (Ne.symm hdt), hdt]
    · have hi : i < m := by omega
      have ih' := ih hi hE (fun j h1 h2 => hlast j h1 (by omega))
      simp only [wrT]
      rw [decide_eq_false (show ¬ m = i by omega), Bool.or_false]
      cases hEm : E m with
      | false => exact ih'
      | true =>
        cases hd : dstOf ops m with
        | none => exact ih'
        | some d =>
          simp only
          by_cases hdt : d = t
          · subst hdt
            rw [T.get_put_eq, T.get_put_eq]
            split
            · rename_i hdi
              have := hlast m hi (Nat.lt_succ_self _) d hdi hd
              rw [hEm] at this; cases this
            · rfl
          · rw [T.get_put_ne _ _ _ (Ne.symm hdt), T.get_put_ne _ _ _ (Ne.symm hdt)]; exact ih'

/-! ### What stands ahead of an operation -/
def maskOf (acc : Array Nat) (o : Oper) : Nat := o.after.foldl (fun s e => if Region.binds .any e then s ||| 2 ^ e.on ||| acc.getD e.on 0 else s) 0

theorem mask_bit {acc : Array Nat} {o : Oper} {j : Nat} (h : (maskOf acc o).testBit j = true) : ∃ e ∈ o.after, Region.binds .any e = true ∧ (e.on = j ∨ (acc.getD e.on 0).testBit j = true) := by
  unfold maskOf at h
  rw [← Array.foldl_toList] at h
  have key : ∀ (l : List Edge) (s0 : Nat), (l.foldl (fun s e => if Region.binds .any e then s ||| 2 ^ e.on ||| acc.getD e.on 0 else s) s0).testBit j = true →
      s0.testBit j = true ∨ ∃ e ∈ l, Region.binds .any e = true ∧ (e.on = j ∨ (acc.getD e.on 0).testBit j = true) := by
    intro l
    induction l with
    | nil => intro s0 h; exact Or.inl h
    | cons e l ih =>
      intro s0 h
      simp only [List.foldl_cons] at h
      rcases ih _ h with h1 | ⟨e1, h1, h2⟩
      · by_cases hb : Region.binds .any e = true
        · rw [if_pos hb] at h1
          simp only [Nat.testBit_or, Bool.or_eq_true] at h1
          rcases h1 with (h1 | h1) | h1
          · exact Or.inl h1
          · rw [Nat.testBit_two_pow] at h1
            exact Or.inr ⟨e, by simp, hb, Or.inl (by simpa using h1)⟩
          · exact Or.inr ⟨e, by simp, hb, Or.inr h1⟩
        · rw [if_neg hb] at h1; exact Or.inl h1
      · exact Or.inr ⟨e1, by simp [h1], h2⟩
  rcases key _ _ h with h1 | ⟨e, h1, h2⟩
  · simp at h1
  · exact ⟨e, by simpa using h1, h2⟩

theorem before_at (ops : Array Oper) : ∀ (i : Nat) (o : Oper), ops[i]? = some o → ∃ acc : Array Nat, (Region.before ops).getD i 0 = maskOf acc o ∧ ∀ j, j < i → acc.getD j 0 = (Region.before ops).getD j 0 := by
  have key : ∀ (l : List Oper) (acc : Array Nat), (∀ j, j < acc.size → (l.foldl (fun acc o => acc.push (maskOf acc o)) acc).getD j 0 = acc.getD j 0) ∧
      (∀ k o, l[k]? = some o → ∃ acc' : Array Nat, acc'.size = acc.size + k ∧ (l.foldl (fun acc o => acc.push (maskOf acc o)) acc).getD (acc.size + k) 0 = maskOf acc' o ∧
        ∀ j, j < acc.size + k → acc'.getD j 0 = (l.foldl (fun acc o => acc.push (maskOf acc o)) acc).getD j 0) := by
    intro l
    induction l with
    | nil => intro acc; exact ⟨fun _ _ => rfl, fun k o h => by simp at h⟩
    | cons x l ih =>
      intro acc
      obtain ⟨h1, h2⟩ := ih (acc.push (maskOf acc x))
      simp only [List.foldl_cons]
      refine ⟨fun j hj => ?_, fun k o hk => ?_⟩
      · rw [h1 j (by simp; omega)]
        simp only [Array.getD_eq_getD_getElem?, Array.getElem?_push]
        rw [if_neg (by omega)]
      · cases k with
        | zero =>
          simp only [List.getElem?_cons_zero, Option.some.injEq] at hk; subst hk
          refine ⟨acc, by simp, ?_, fun j hj => ?_⟩
          · rw [h1 _ (by simp)]; simp
          · rw [h1 j (by simp; omega)]
            simp only [Array.getD_eq_getD_getElem?, Array.getElem?_push]
            rw [if_neg (by omega)]
        | succ k =>
          simp only [List.getElem?_cons_succ] at hk
          obtain ⟨acc', e1, e2, e3⟩ := h2 k o hk
          simp only [Array.size_push] at e1 e2 e3
          exact ⟨acc', by omega, by rw [show acc.size + (k + 1) = acc.size + 1 + k by omega]; exact e2, fun j hj => e3 j (by omega)⟩
  intro i o ho
  have := (key ops.toList #[]).2 i o (by simpa using ho)
  obtain ⟨acc', _, e2, e3⟩ := this
  have eb : Region.before ops = ops.toList.foldl (fun acc o => acc.push (maskOf acc o)) #[] := by
    unfold Region.before maskOf
    rw [← Array.foldl_toList]
  rw [eb]
  simp only [Array.size_empty, Nat.zero_add] at e2 e3
  exact ⟨acc', e2, e3⟩

end Go.Ev

/- A region that draws its order, II: the clean run's trace, and what holds behind any part of it. -/
namespace Go.Ev
open Go
variable {P : Program} {R : Rec}

def badOf (M : List (Nat × Nat × Nat)) (p : PlanRow) : List (Nat × Nat) := (M.filter fun m => p.beside.contains m.1).map (·.2)

structure Trace (P : Program) (R : Rec) (lk sz : Nat) (ops : Array Oper) (pl : List PlanRow) (F : Nat → Fr) (S : Nat → HS) (M : Nat → List (Nat × Nat × Nat)) (V : Nat → Value) (k0 : Nat) : Prop where
  step : ∀ k o, k0 ≤ k → ops[k]? = some o → ∃ p s1, pl[k]? = some p ∧ stepV P R (if p.bar then lk else (S k).nx) ops.toList (F k) (hid (S k) (badOf (M k) p)) o = some (V k, s1) ∧
    setA sz (F k) o.dst (V k) = some (F (k + 1)) ∧ S (k + 1) = unh (S k) s1 (badOf (M k) p) ∧
    noteA P.globals.size p k (F k) o (if (S k).nx < (S (k + 1)).nx then (k, (S k).nx, (S (k + 1)).nx) :: M k else M k) = some (M (k + 1))

theorem draw_trace {lk sz : Nat} {ops : Array Oper} {pl : List PlanRow} : ∀ (os : List Oper) (ps : List PlanRow) (k : Nat) (made : List (Nat × Nat × Nat)) (fr fr' : Fr) (s s' : HS), ops.toList.drop k = os → pl.drop k = ps →
    drawA P R lk sz ops.toList os ps k made fr s = some (fr', s') →
    ∃ F S M V, F k = fr ∧ S k = s ∧ M k = made ∧ F (k + os.length) = fr' ∧ S (k + os.length) = s' ∧ Trace P R lk sz ops pl F S M V k := by
  intro os
  induction os with
  | nil =>
    intro ps k made fr fr' s s' hd hp h
    cases ps with
    | nil =>
      cases h
      refine ⟨fun _ => fr, fun _ => s, fun _ => made, fun _ => undef, rfl, rfl, rfl, rfl, rfl, ⟨fun j o hj ho => ?_⟩⟩
      have : ops.size ≤ k := by have := List.drop_eq_nil_iff.1 hd; simpa using this
      have := (Array.getElem?_eq_some_iff.1 ho).1
      omega
    | cons p ps => cases h
  | cons o os ih =>
    intro ps k made fr fr' s s' hd hp h
    cases ps with
    | nil => cases h
    | cons p ps =>
      rw [drawA_cons] at h
      obtain ⟨⟨fr1, s1⟩, h1, h2'⟩ := bind_inv h
      obtain ⟨made', hnote, h2⟩ := bind_inv h2'
      rw [stepA_eq] at h1
      obtain ⟨⟨v, s1'⟩, h3, h4⟩ := bind_inv h1
      obtain ⟨fr1', h5, h6⟩ := map_inv h4
      cases h6
      obtain ⟨F, S, M, V, e1, e2, e3, e4, e5, t⟩ := ih ps (k + 1) _ _ _ _ _ (by rw [← List.drop_drop, hd]; rfl) (by rw [← List.drop_drop, hp]; rfl) h2
      have hk : ∀ j, ¬ j ≤ k → k + 1 ≤ j := fun j h => by omega
      refine ⟨fun j => if j ≤ k then fr else F j, fun j => if j ≤ k then s else S j, fun j => if j ≤ k then made else M j, fun j => if j = k then v else V j, if_pos (Nat.le_refl _), if_pos (Nat.le_refl _), if_pos (Nat.le_refl _),
        ?_, ?_, ⟨fun j o' hj ho => ?_⟩⟩
      · simp only [List.length_cons]; rw [if_neg (by omega), ← e4]; congr 1; omega
      · simp only [List.length_cons]; rw [if_neg (by omega), ← e5]; congr 1; omega
      · by_cases hjk : j = k
        · subst hjk
          have ho' : o' = o := by
            have : (ops.toList.drop j)[0]? = some o := by rw [hd]; rfl
            have h2 : ops[j]? = some o := by simpa using this
            rw [h2] at ho; cases ho; rfl
          subst ho'
          have hpl : pl[j]? = some p := by
            have : (pl.drop j)[0]? = some p := by rw [hp]; rfl
            simpa using this
          refine ⟨p, s1', hpl, ?_⟩
          simp only [Nat.le_refl, if_true, show ¬ (j + 1 ≤ j) by omega, if_false, e1, e2, e3]
          exact ⟨h3, h5, rfl, hnote⟩
        · obtain ⟨p', s1', q1, q2, q3, q4, q5⟩ := t.step j o' (by omega) ho
          refine ⟨p', s1', q1, ?_⟩
          simp only [show ¬ j ≤ k by omega, show ¬ j + 1 ≤ k by omega, if_false, hjk]
          exact ⟨q2, q3, q4, q5⟩

/-- All that is known of a region that draws, its trace with it. -/
structure DC (P : Program) (R : Rec) (lk sz : Nat) (ops : Array Oper) (F : Nat → Fr) (S : Nat → HS) (M : Nat → List (Nat × Nat × Nat)) (V : Nat → Value) : Prop where
  tr : Trace P R lk sz ops ((List.range ops.size).map (rowA ops.toList (Region.before ops) (quietsA ops.toList (Region.before ops)))) F S M V 0
  ok : drawOk ops = true
  ab : AbR R
  b0 : Bnd (S 0)
  l0 : lk ≤ (S 0).nx
  m0 : M 0 = []

def bits (ops : Array Oper) (k j : Nat) : Bool := ((Region.before ops).getD k 0).testBit j
def quietK (ops : Array Oper) (k : Nat) : Bool := (quietsA ops.toList (Region.before ops)).contains k
def loudK (ops : Array Oper) (k : Nat) : Bool := ((ops[k]?).any fun o => loudA o.op) && !quietK ops k
def rowK (ops : Array Oper) (k : Nat) : PlanRow := rowA ops.toList (Region.before ops) (quietsA ops.toList (Region.before ops)) k
def barK (ops : Array Oper) (k : Nat) : Bool := (rowK ops k).bar
def lbar (ops : Array Oper) (k : Nat) : Bool := loudK ops k && barK ops k

section
variable {lk sz : Nat} {ops : Array Oper} {F : Nat → Fr} {S : Nat → HS} {M : Nat → List (Nat × Nat × Nat)} {V : Nat → Value}

theorem DC.edges (d : DC P R lk sz ops F S M V) {k : Nat} {o : Oper} (ho : ops[k]? = some o) : ∀ e ∈ o.after, Region.binds .any e = true → e.on < k := by
  have h := d.ok
  unfold drawOk at h
  simp only [Bool.and_eq_true, List.all_eq_true, List.mem_range] at h
  have hk := (Array.getElem?_eq_some_iff.1 ho).1
  have h1 := h.1 k hk
  rw [ho] at h1
  simp only [Option.all_some, Bool.and_eq_true, Array.all_eq_true_iff_forall_mem, Bool.or_eq_true, Bool.not_eq_true'] at h1
  intro e he hb
  have := h1.1.1 e he
  rw [hb] at this
  simpa using this

theorem DC.apart (d : DC P R lk sz ops F S M V) {i j : Nat} {x y : Oper} (hij : i < j) (hx : ops[i]? = some x) (hy : ops[j]? = some y) (hb : bits ops j i = false) : x.apart ops y = true := by
  have h := d.ok
  unfold drawOk at h
  simp only [Bool.and_eq_true, List.all_eq_true, List.mem_range, Bool.or_eq_true] at h
  have hj := (Array.getElem?_eq_some_iff.1 hy).1
  rcases h.2 j hj i hij with h1 | h1
  · unfold bits at hb; rw [hb] at h1; cases h1
  · rw [hx, hy] at h1; simpa using h1

theorem DC.bit_inv (d : DC P R lk sz ops F S M V) {k j : Nat} {o : Oper} (ho : ops[k]? = some o) (h : bits ops k j = true) : ∃ e ∈ o.after, Region.binds .any e = true ∧ e.on < k ∧ (e.on = j ∨ bits ops e.on j = true) := by
  obtain ⟨acc, h1, h2⟩ := before_at ops k o ho
  unfold bits at h
  rw [h1] at h
  obtain ⟨e, q1, q2, q3⟩ := mask_bit h
  have hlt := d.edges ho e q1 q2
  refine ⟨e, q1, q2, hlt, ?_⟩
  rcases q3 with q3 | q3
  · exact Or.inl q3
  · rw [h2 _ hlt] at q3; exact Or.inr q3

theorem DC.bit_lt (d : DC P R lk sz ops F S M V) : ∀ (k j : Nat), k < ops.size → bits ops k j = true → j < k := by
  intro k
  induction k using Nat.strongRecOn with
  | _ k ih =>
    intro j hk h
    obtain ⟨e, _, _, h3, h4⟩ := d.bit_inv (Array.getElem?_eq_getElem hk) h
    rcases h4 with h4 | h4
    · omega
    · have := ih e.on h3 j (by omega) h4; omega

theorem mem_loud {k : Nat} : k ∈ ((List.range ops.toList.length).filter fun j => ((ops.toList[j]?).any fun o => loudA o.op) && !(quietsA ops.toList (Region.before ops)).contains j) ↔ k < ops.size ∧ loudK ops k = true := by
  simp [List.mem_filter, loudK, quietK]

theorem quiet_spec {j : Nat} (h : quietK ops j = true) : ∃ hj : j < ops.size, isLoad (ops[j]'hj).op = true ∧ (ops[j]'hj).guard = none ∧
    ∀ (k : Nat) (hk : k < ops.size), k < j → bits ops j k = true ∨ loudA (ops[k]'hk).op = false ∨ isLoad (ops[k]'hk).op = true := by
  unfold quietK quietsA at h
  simp only [List.contains_iff_mem, List.mem_filter, List.mem_range, Array.length_toList] at h
  obtain ⟨hj, h⟩ := h
  refine ⟨hj, ?_⟩
  unfold quietA at h
  simp only [Bool.and_eq_true] at h
  obtain ⟨h1, _, h3⟩ := h
  rw [Array.getElem?_toList, Array.getElem?_eq_getElem hj] at h1
  simp only [Option.any_some, Bool.and_eq_true, Option.isNone_iff_eq_none] at h1
  refine ⟨h1.1, h1.2, fun k hk hkj => ?_⟩
  have := List.all_eq_true.1 h3 k (by simpa using hk)
  simp only [Bool.or_eq_true, Bool.not_eq_true'] at this
  rw [Array.getElem?_toList, Array.getElem?_eq_getElem hk] at this
  simp only [Option.all_some, Bool.or_eq_true, Bool.not_eq_true'] at this
  rcases this with (h | h) | h
  · have : Nat.blt k j = true := by simpa using hkj
    rw [this] at h; cases h
  · exact Or.inl h
  · exact Or.inr h

theorem quiet_loud {j : Nat} (h : quietK ops j = true) : loudK ops j = false := by unfold loudK; rw [h]; simp

theorem bar_spec {i j : Nat} (h : barK ops i = true) (hl : loudK ops j = true) (hj : j < ops.size) : j = i ∨ bits ops i j = true ∨ bits ops j i = true := by
  unfold barK rowK rowA at h
  simp only [List.all_eq_true] at h
  have := h j (mem_loud.2 ⟨hj, hl⟩)
  simp only [Bool.or_eq_true, beq_iff_eq] at this
  rcases this with (h1 | h1) | h1
  · exact Or.inl h1
  · exact Or.inr (Or.inl h1)
  · exact Or.inr (Or.inr h1)

def rawK (ops : Array Oper) (k : Nat) : Bool := (ops[k]?).any fun o => loudA o.op
theorem raw_loud {k : Nat} (h : loudK ops k = true) : rawK ops k = true := by
  unfold loudK at h
  simp only [Bool.and_eq_true] at h
  exact h.1

theorem beside_spec {i j : Nat} : (rowK ops i).beside.contains j = true ↔ rawK ops i = true ∧ ((j < ops.size ∧ loudK ops j = true) ∨ (barK ops i = true ∧ quietK ops j = true)) ∧ j < i ∧ bits ops i j = false := by
  have hb : barK ops i = (rowK ops i).bar := rfl
  have hr : rawK ops i = (ops.toList[i]?).any (fun o => loudA o.op) := by unfold rawK; rw [Array.getElem?_toList]
  unfold rowK rowA at hb ⊢
  simp only at hb ⊢
  rw [← hb, ← hr]
  cases rawK ops i with
  | false => simp
  | true =>
    simp only [cond_true, List.contains_iff_mem, true_and]
    rw [List.mem_filter, List.mem_append, mem_loud]
    simp only [Bool.and_eq_true, Bool.not_eq_true', bits]
    have hq : j ∈ (bif barK ops i then quietsA ops.toList (Region.before ops) else []) ↔ barK ops i = true ∧ quietK ops j = true := by
      unfold quietK
      cases barK ops i <;> simp
    rw [hq]
    constructor
    · rintro ⟨h1, h3, h4⟩; exact ⟨h1, by simpa using h3, h4⟩
    · rintro ⟨h1, h3, h4⟩; exact ⟨h1, by simpa using h3, h4⟩

/-- One step of the trace. -/
theorem DC.at (d : DC P R lk sz ops F S M V) {k : Nat} {o : Oper} (ho : ops[k]? = some o) : ∃ s1, stepV P R (if barK ops k then lk else (S k).nx) ops.toList (F k) (hid (S k) (badOf (M k) (rowK ops k))) o = some (V k, s1) ∧
    setA sz (F k) o.dst (V k) = some (F (k + 1)) ∧ S (k + 1) = unh (S k) s1 (badOf (M k) (rowK ops k)) ∧
    noteA P.globals.size (rowK ops k) k (F k) o (if (S k).nx < (S (k + 1)).nx then (k, (S k).nx, (S (k + 1)).nx) :: M k else M k) = some (M (k + 1)) := by
  obtain ⟨p, s1, h1, h2⟩ := d.tr.step k o (Nat.zero_le _) ho
  have hk := (Array.getElem?_eq_some_iff.1 ho).1
  have : p = rowK ops k := by
    rw [List.getElem?_map, List.getElem?_range hk] at h1
    simp only [Option.map_some, Option.some.injEq] at h1
    exact h1.symm
  subst this
  exact ⟨s1, h2⟩

theorem rowK_quiet {k : Nat} : (rowK ops k).quiet = bif quietK ops k then some (quietsA ops.toList (Region.before ops)) else none := rfl

/-- A note of the trace: blocks of its own, or the block that a quiet load reads. -/
structure NoteOK (ops : Array Oper) (P : Program) (F : Nat → Fr) (S : Nat → HS) (k : Nat) (m : Nat × Nat × Nat) : Prop where
  lt : m.1 < k
  new : quietK ops m.1 = false → m.2.1 = (S m.1).nx ∧ m.2.2 = (S (m.1 + 1)).nx ∧ (S 0).nx ≤ m.2.1 ∧ m.2.2 ≤ (S k).nx
  old : quietK ops m.1 = true → m.2.2 = m.2.1 + 1 ∧ m.2.1 < (S 0).nx ∧ ∃ o, ops[m.1]? = some o ∧ loadBlk P.globals.size (F m.1) o = some m.2.1

theorem DC.main (d : DC P R lk sz ops F S M V) : ∀ k, k ≤ ops.size → (∀ j, j < k → (S j).nx ≤ (S (j + 1)).nx) ∧ (S 0).nx ≤ (S k).nx ∧ Bnd (S k) ∧ (∀ m ∈ M k, NoteOK ops P F S k m) ∧
    (∀ j, j < k → (S j).nx < (S (j + 1)).nx → (j, (S j).nx, (S (j + 1)).nx) ∈ M k) ∧ Ab lk (S 0) (S k) ∧ (∀ j, j < k → quietK ops j = true → ∃ b, (j, b, b + 1) ∈ M k) := by
  intro k
  induction k with
  | zero => intro _; exact ⟨fun j h => by omega, Nat.le_refl _, d.b0, (fun m hm => by rw [d.m0] at hm; cases hm), (fun j h => by omega), Ab.refl _ _, fun j h => by omega⟩
  | succ k ih =>
    intro hk
    obtain ⟨i1, i2, i3, i4, i5, i6, i7⟩ := ih (by omega)
    have hko : k < ops.size := by omega
    have hoi : ops[k]? = some (ops[k]'hko) := Array.getElem?_eq_getElem hko
    obtain ⟨s1, h1, h2, h3, h4⟩ := d.at hoi
    have hst : stepA P R (if barK ops k then lk else (S k).nx) sz ops.toList (F k) (hid (S k) (badOf (M k) (rowK ops k))) (ops[k]'(by omega)) = some (F (k + 1), s1) := by
      rw [stepA_eq, h1]; simp only [Option.bind_some]; rw [h2]; rfl
    have ab := draw_ab (lk := lk) d.ab (by cases barK ops k <;> simp) hst (Nat.le_trans d.l0 i2)
    rw [← h3] at ab
    have an := ab.nx
    have up : ∀ m, NoteOK ops P F S k m → NoteOK ops P F S (k + 1) m := fun m hm => ⟨by have := hm.lt; omega, fun h => by obtain ⟨a, b, c, e⟩ := hm.new h; exact ⟨a, b, c, by omega⟩, hm.old⟩
    -- the notes ahead of a quiet load's
    have mid : quietK ops k = false → ∀ m ∈ (if (S k).nx < (S (k + 1)).nx then (k, (S k).nx, (S (k + 1)).nx) :: M k else M k), NoteOK ops P F S (k + 1) m := fun hq m hm => by
      split at hm
      · rcases List.mem_cons.1 hm with rfl | hm
        · exact ⟨Nat.lt_succ_self _, fun _ => ⟨rfl, rfl, i2, Nat.le_refl _⟩, fun h => by simp only at h; rw [hq] at h; cases h⟩
        · exact up m (i4 m hm)
      · exact up m (i4 m hm)
    rw [show noteA P.globals.size (rowK ops k) k (F k) (ops[k]'hko) = fun made => match (rowK ops k).quiet with
      | none => some made
      | some qs => (loadBlk P.globals.size (F k) (ops[k]'hko)).bind fun b => if made.all (fun m => qs.contains m.1 || !(Nat.ble m.2.1 b && Nat.blt b m.2.2)) = true then some ((k, b, b + 1) :: made) else none from rfl, rowK_quiet] at h4
    cases hq : quietK ops k with
    | false =>
      rw [hq] at h4
      simp only [cond_false, Option.some.injEq] at h4
      refine ⟨fun j hj => ?_, Nat.le_trans i2 ab.nx, ab.bnd i3, fun m hm => ?_, fun j hj hlt => ?_, i6.trans ab, fun j hj hqj => ?_⟩
      · by_cases hjk : j = k
        · subst hjk; exact ab.nx
        · exact i1 j (by omega)
      · rw [← h4] at hm; exact mid hq m hm
      · rw [← h4]
        by_cases hjk : j = k
        · subst hjk; rw [if_pos hlt]; exact List.mem_cons_self
        · have := i5 j (by omega) hlt
          split
          · exact List.mem_cons_of_mem _ this
          · exact this
      · have hjk : j ≠ k := fun e => by rw [e, hq] at hqj; cases hqj
        obtain ⟨b, hb⟩ := i7 j (by omega) hqj
        refine ⟨b, ?_⟩
        rw [← h4]
        split
        · exact List.mem_cons_of_mem _ hb
        · exact hb
    | true =>
      obtain ⟨_, ql, qg, _⟩ := quiet_spec hq
      obtain ⟨e1, b0, hb0, hne, _⟩ := stepV_quiet ql qg h1
      have hnx : (S (k + 1)).nx = (S k).nx := by rw [h3, unh_nx, e1, hid_nx]
      rw [hq] at h4
      simp only [cond_true, hb0, Option.bind_some] at h4
      rw [if_neg (show ¬ (S k).nx < (S (k + 1)).nx by omega)] at h4
      split at h4
      · rename_i hchk
        simp only [Option.some.injEq] at h4
        have hbk : b0 < (S k).nx := by
          rw [hid_get] at hne
          split at hne
          · exact absurd rfl hne
          · exact i3 b0 hne
        have hb00 : b0 < (S 0).nx := by
          rcases Nat.lt_or_ge b0 (S 0).nx with h | h
          · exact h
          · exfalso
            -- b0 is a block that some operation of the region has made
            have : ∃ j, j < k ∧ (S j).nx ≤ b0 ∧ b0 < (S (j + 1)).nx := by
              clear h4 hchk i4 i5 i7 up mid hb0 hne h1 hst ab an e1 hnx h2 h3 i6
              have key : ∀ n, n ≤ k → b0 < (S n).nx → ∃ j, j < n ∧ (S j).nx ≤ b0 ∧ b0 < (S (j + 1)).nx := by
                intro n
                induction n with
                | zero => intro _ h2; omega
                | succ n ihn =>
                  intro hn h2
                  by_cases h3 : b0 < (S n).nx
                  · obtain ⟨j, q1, q2, q3⟩ := ihn (by omega) h3; exact ⟨j, by omega, q2, q3⟩
                  · exact ⟨n, Nat.lt_succ_self _, by omega, h2⟩
              exact key k (Nat.le_refl _) hbk
            obtain ⟨j, q1, q2, q3⟩ := this
            have hm := i5 j q1 (by omega)
            have := List.all_eq_true.1 hchk _ hm
            simp only [Bool.or_eq_true, Bool.not_eq_true', Bool.and_eq_false_iff] at this
            rcases this with h5 | h5 | h5
            · -- a quiet load makes nothing
              have hqj : quietK ops j = true := h5
              have hjs : j < ops.size := by omega
              obtain ⟨_, ql2, qg2, _⟩ := quiet_spec hqj
              obtain ⟨s3, r1, _, r3, _⟩ := d.at (Array.getElem?_eq_getElem hjs)
              have e3 := (stepV_quiet ql2 qg2 r1).1
              have : (S (j + 1)).nx = (S j).nx := by rw [r3, unh_nx, e3, hid_nx]
              omega
            · have : Nat.ble (S j).nx b0 = true := by simpa using q2
              rw [this] at h5; cases h5
            · have : Nat.blt b0 (S (j + 1)).nx = true := by simpa using q3
              rw [this] at h5; cases h5
        refine ⟨fun j hj => ?_, Nat.le_trans i2 ab.nx, ab.bnd i3, fun m hm => ?_, fun j hj hlt => ?_, i6.trans ab, fun j hj hqj => ?_⟩
        · by_cases hjk : j = k
          · subst hjk; exact ab.nx
          · exact i1 j (by omega)
        · rw [← h4] at hm
          rcases List.mem_cons.1 hm with rfl | hm
          · exact ⟨Nat.lt_succ_self _, fun h => (by simp only at h; rw [hq] at h; cases h), fun _ => ⟨rfl, hb00, _, hoi, hb0⟩⟩
          · exact up m (i4 m hm)
        · rw [← h4]
          have hjk : j ≠ k := fun e => by subst e; omega
          exact List.mem_cons_of_mem _ (i5 j (by omega) hlt)
        · rw [← h4]
          by_cases hjk : j = k
          · subst hjk; exact ⟨b0, List.mem_cons_self⟩
          · obtain ⟨b, hb⟩ := i7 j (by omega) hqj
            exact ⟨b, List.mem_cons_of_mem _ hb⟩
      · cases h4

theorem DC.mono (d : DC P R lk sz ops F S M V) {j k : Nat} (h : j ≤ k) (hk : k ≤ ops.size) : (S j).nx ≤ (S k).nx := by
  induction k with
  | zero => have : j = 0 := by omega
            subst this; exact Nat.le_refl _
  | succ k ih =>
    by_cases hj : j = k + 1
    · subst hj; exact Nat.le_refl _
    · exact Nat.le_trans (ih (by omega) (by omega)) ((d.main (k + 1) hk).1 k (Nat.lt_succ_self _))

theorem DC.bnd (d : DC P R lk sz ops F S M V) {k : Nat} (hk : k ≤ ops.size) : Bnd (S k) := (d.main k hk).2.2.1

theorem DC.inBad (d : DC P R lk sz ops F S M V) {i id : Nat} (hi : i < ops.size) (h : inBad (badOf (M i) (rowK ops i)) id = true) :
    (∃ k, k < i ∧ loudK ops k = true ∧ bits ops i k = false ∧ (S k).nx ≤ id ∧ id < (S (k + 1)).nx) ∨ (barK ops i = true ∧ id < (S 0).nx) := by
  obtain ⟨_, _, _, i4, i5, _⟩ := d.main i (by omega)
  unfold Go.Ev.inBad badOf at h
  simp only [List.any_eq_true, List.mem_map, List.mem_filter, decide_eq_true_eq] at h
  obtain ⟨x, ⟨m, ⟨h1, h2⟩, rfl⟩, h3, h4⟩ := h
  have a := i4 m h1
  obtain ⟨_, b1, b3, b4⟩ := beside_spec.1 h2
  cases hq : quietK ops m.1 with
  | false =>
    obtain ⟨a2, a3, _, _⟩ := a.new hq
    rcases b1 with b1 | b1
    · exact Or.inl ⟨m.1, b3, b1.2, b4, by omega, by omega⟩
    · rw [hq] at b1; cases b1.2
  | true =>
    obtain ⟨a2, a3, _⟩ := a.old hq
    rcases b1 with b1 | b1
    · rw [quiet_loud hq] at b1; cases b1.2
    · exact Or.inr ⟨b1.1, by omega⟩

theorem DC.inBadNew (d : DC P R lk sz ops F S M V) {i id : Nat} (hi : i < ops.size) (hlo : rawK ops i = true) (h : ∃ k, k < i ∧ loudK ops k = true ∧ bits ops i k = false ∧ (S k).nx ≤ id ∧ id < (S (k + 1)).nx) : Go.Ev.inBad (badOf (M i) (rowK ops i)) id = true := by
  obtain ⟨_, _, _, i4, i5, _⟩ := d.main i (by omega)
  unfold Go.Ev.inBad badOf
  simp only [List.any_eq_true, List.mem_map, List.mem_filter, decide_eq_true_eq]
  obtain ⟨k, h1, h2, h3, h4, h5⟩ := h
  exact ⟨_, ⟨_, ⟨i5 k h1 (by omega), beside_spec.2 ⟨hlo, Or.inl ⟨by omega, h2⟩, h1, h3⟩⟩, rfl⟩, h4, h5⟩

theorem DC.inBadOld (d : DC P R lk sz ops F S M V) {i j : Nat} (hi : i < ops.size) (hlo : rawK ops i = true) (hb : barK ops i = true) (hq : quietK ops j = true) (hji : j < i) (hbit : bits ops i j = false) {o : Oper} (ho : ops[j]? = some o) {b : Nat}
    (hl : loadBlk P.globals.size (F j) o = some b) : Go.Ev.inBad (badOf (M i) (rowK ops i)) b = true := by
  obtain ⟨_, _, _, i4, i5, _, i7⟩ := d.main i (by omega)
  obtain ⟨b', hm⟩ := i7 j hji hq
  obtain ⟨_, _, o', ho', hl'⟩ := (i4 _ hm).old hq
  simp only at ho' hl'
  rw [ho] at ho'; cases ho'
  rw [hl] at hl'; cases hl'
  unfold Go.Ev.inBad badOf
  simp only [List.any_eq_true, List.mem_map, List.mem_filter, decide_eq_true_eq]
  exact ⟨_, ⟨_, ⟨hm, beside_spec.2 ⟨hlo, Or.inr ⟨hb, hq⟩, hji, hbit⟩⟩, rfl⟩, Nat.le_refl _, Nat.lt_succ_self _⟩

/-- A load leaves all as it is. -/
theorem DC.loads (d : DC P R lk sz ops F S M V) {k : Nat} (hk : k < ops.size) (hl : isLoad (ops[k]'hk).op = true) : (S (k + 1)).nx = (S k).nx ∧ (∀ id, (S (k + 1)).hp.get id = (S k).hp.get id) := by
  obtain ⟨s1, h1, h2, h3, h4⟩ := d.at (Array.getElem?_eq_getElem hk)
  have e := stepV_load hl h1
  subst e
  refine ⟨by rw [h3, unh_nx, hid_nx], fun id => ?_⟩
  rw [h3, unh_get]
  split
  · rfl
  · rename_i hb; rw [hid_get, if_neg hb]

theorem DC.pureL {k : Nat} (hk : k < ops.size) (hl : loudK ops k = false) (hq : quietK ops k = false) : loudA (ops[k]'hk).op = false := by
  unfold loudK at hl
  rw [hq, Array.getElem?_eq_getElem hk] at hl
  simpa using hl

/-- What is not loud leaves all as it is. -/
theorem DC.quiet (d : DC P R lk sz ops F S M V) {k : Nat} (hk : k < ops.size) (hl : loudK ops k = false) : (S (k + 1)).nx = (S k).nx ∧ (∀ id, (S (k + 1)).hp.get id = (S k).hp.get id) := by
  cases hq : quietK ops k with
  | true => exact d.loads hk (quiet_spec hq).2.1
  | false =>
    obtain ⟨s1, h1, h2, h3, h4⟩ := d.at (Array.getElem?_eq_getElem hk)
    obtain ⟨e, hp⟩ := stepV_pure (DC.pureL hk hl hq) h1
    subst e
    refine ⟨by rw [h3, unh_nx, hid_nx], fun id => ?_⟩
    rw [h3, unh_get]
    split
    · rfl
    · rename_i hb; rw [hid_get, if_neg hb]

theorem DC.pureV (d : DC P R lk sz ops F S M V) {k : Nat} (hk : k < ops.size) (hl : loudK ops k = false) (hq : quietK ops k = false) (lk2 : Nat) (s2 : HS) : stepV P R lk2 ops.toList (F k) s2 (ops[k]'hk) = some (V k, s2) := by
  obtain ⟨s1, h1, _⟩ := d.at (Array.getElem?_eq_getElem hk)
  exact (stepV_pure (DC.pureL hk hl hq) h1).2 lk2 s2

/-- A quiet load: its block, and what it needs. -/
theorem DC.quietV (d : DC P R lk sz ops F S M V) {k : Nat} (hk : k < ops.size) (hq : quietK ops k = true) : ∃ b, loadBlk P.globals.size (F k) (ops[k]'hk) = some b ∧ b < (S 0).nx ∧ (S k).hp.get b ≠ none ∧
    ∀ lk2 (s2 : HS), s2.hp.get b = (S k).hp.get b → stepV P R lk2 ops.toList (F k) s2 (ops[k]'hk) = some (V k, s2) := by
  obtain ⟨_, ql, qg, _⟩ := quiet_spec hq
  have hoi : ops[k]? = some (ops[k]'hk) := Array.getElem?_eq_getElem hk
  obtain ⟨s1, h1, _⟩ := d.at hoi
  obtain ⟨_, b, hb, hne, hv⟩ := stepV_quiet ql qg h1
  have heq : (hid (S k) (badOf (M k) (rowK ops k))).hp.get b = (S k).hp.get b := by
    rw [hid_get] at hne ⊢
    split at hne
    · exact absurd rfl hne
    · rename_i h; rw [if_neg h]
  obtain ⟨_, _, _, i4, _, _, i7⟩ := d.main (k + 1) hk
  obtain ⟨b', hm⟩ := i7 k (Nat.lt_succ_self _) hq
  obtain ⟨_, h0, o', ho', hl'⟩ := (i4 _ hm).old hq
  simp only at ho' hl' h0
  rw [hoi] at ho'; cases ho'
  rw [hb] at hl'; cases hl'
  exact ⟨b, hb, h0, by rw [← heq]; exact hne, fun lk2 s2 he => hv lk2 s2 (by rw [heq]; exact he)⟩

theorem DC.lock (d : DC P R lk sz ops F S M V) {k : Nat} (hk : k < ops.size) (hl : lbar ops k = false) {id : Nat} (hid' : id < (S k).nx) : (S (k + 1)).hp.get id = (S k).hp.get id := by
  cases hlo : loudK ops k with
  | false => exact (d.quiet hk hlo).2 id
  | true =>
    have hbar : barK ops k = false := by unfold lbar at hl; rw [hlo] at hl; simpa using hl
    obtain ⟨s1, h1, h2, h3, h4⟩ := d.at (Array.getElem?_eq_getElem hk)
    rw [hbar] at h1
    simp only [Bool.false_eq_true, if_false] at h1
    have hst : stepA P R (S k).nx sz ops.toList (F k) (hid (S k) (badOf (M k) (rowK ops k))) (ops[k]'hk) = some (F (k + 1), s1) := by
      rw [stepA_eq, h1]; simp only [Option.bind_some]; rw [h2]; rfl
    have ab := stepA_ab d.ab (by rw [hid_nx]; exact Nat.le_refl _) hst
    rw [h3, unh_get]
    split
    · rfl
    · rename_i hb
      rw [ab.lock (by rw [hid_nx]; exact Nat.le_refl _) id hid', hid_get, if_neg hb]

theorem DC.lockR (d : DC P R lk sz ops F S M V) {k m : Nat} (hkm : k ≤ m) (hm : m ≤ ops.size) (hl : ∀ j, k ≤ j → j < m → lbar ops j = false) {id : Nat} (hid' : id < (S k).nx) : (S m).hp.get id = (S k).hp.get id := by
  induction m with
  | zero => have : k = 0 := by omega
            subst this; rfl
  | succ m ih =>
    by_cases hk : k = m + 1
    · subst hk; rfl
    · have := d.mono (j := k) (k := m) (by omega) (by omega)
      rw [d.lock (by omega) (hl m (by omega) (Nat.lt_succ_self _)) (by omega), ih (by omega) (by omega) (fun j h1 h2 => hl j h1 (by omega))]
end

/-! ### Whose a name is -/
def own (N : Nat → Nat) (id : Nat) : Nat → Nat
  | 0 => 0
  | m + 1 => if N m ≤ id then m else own N id m

theorem own_spec {N : Nat → Nat} {id : Nat} : ∀ n, N 0 ≤ id → id < N n → own N id n < n ∧ N (own N id n) ≤ id ∧ id < N (own N id n + 1) := by
  intro n
  induction n with
  | zero => intro h1 h2; omega
  | succ n ih =>
    intro h1 h2
    simp only [own]
    split
    · rename_i h; exact ⟨Nat.lt_succ_self _, h, h2⟩
    · rename_i h
      have := ih h1 (by omega)
      exact ⟨by omega, this.2⟩

theorem own_uniq {N : Nat → Nat} {id n k : Nat} (hm : ∀ i j, i ≤ j → j ≤ n → N i ≤ N j) (hk : k < n) (h1 : N k ≤ id) (h2 : id < N (k + 1)) : own N id n = k := by
  have h0 : N 0 ≤ id := Nat.le_trans (hm 0 k (by omega) (by omega)) h1
  have hn : id < N n := Nat.lt_of_lt_of_le h2 (hm _ _ (by omega) (Nat.le_refl _))
  obtain ⟨a1, a2, a3⟩ := own_spec n h0 hn
  rcases Nat.lt_trichotomy (own N id n) k with h | h | h
  · have := hm (own N id n + 1) k (by omega) (by omega); omega
  · exact h
  · have := hm (k + 1) (own N id n) (by omega) (by omega); omega

/-- One behind the last of the carried-out operations that may write. -/
def bet (ops : Array Oper) (E : Nat → Bool) : Nat → Nat
  | 0 => 0
  | k + 1 => if E k && lbar ops k then k + 1 else bet ops E k

theorem bet_spec (ops : Array Oper) (E : Nat → Bool) : ∀ n, bet ops E n ≤ n ∧ (bet ops E n = 0 ∨ (E (bet ops E n - 1) = true ∧ lbar ops (bet ops E n - 1) = true)) ∧ ∀ k, bet ops E n ≤ k → k < n → (E k && lbar ops k) = false := by
  intro n
  induction n with
  | zero => exact ⟨Nat.le_refl _, Or.inl rfl, fun k _ h => by omega⟩
  | succ n ih =>
    obtain ⟨h1, h2, h3⟩ := ih
    simp only [bet]
    split
    · rename_i h
      simp only [Bool.and_eq_true] at h
      exact ⟨Nat.le_refl _, Or.inr (by simpa using h), fun k a b => by omega⟩
    · rename_i h
      refine ⟨by omega, h2, fun k a b => ?_⟩
      by_cases hk : k = n
      · subst hk; simpa using h
      · exact h3 k a (by omega)

end Go.Ev

/- A region that draws its order, III: whatever order is drawn. -/
namespace Go.Ev
open Go
variable {P : Program} {R : Rec} {φ : Inj} {sz lk B : Nat} {ro : Option Nat}

theorem FrR.congr {f g : Fr} {t : Array Value} (h : ∀ x, f.get x = g.get x) (F : FrR φ sz g t) : FrR φ sz f t := ⟨F.1, fun x v e => F.2 x v (by rw [← h]; exact e)⟩

theorem bet_ext {ops : Array Oper} {E E' : Nat → Bool} : ∀ n, (∀ k, k < n → (E k && lbar ops k) = (E' k && lbar ops k)) → bet ops E n = bet ops E' n := by
  intro n
  induction n with
  | zero => intro _; rfl
  | succ n ih =>
    intro h
    simp only [bet]
    rw [h n (Nat.lt_succ_self _), ih (fun k hk => h k (by omega))]

theorem bet_top {ops : Array Oper} {E : Nat → Bool} {c : Nat} : ∀ n, c < n → (E c && lbar ops c) = true → (∀ k, c < k → k < n → (E k && lbar ops k) = false) → bet ops E n = c + 1 := by
  intro n
  induction n with
  | zero => intro h; omega
  | succ n ih =>
    intro h h1 h2
    simp only [bet]
    by_cases hc : c = n
    · subst hc; rw [h1]; rfl
    · rw [h2 n (by omega) (Nat.lt_succ_self _)]
      exact ih (by omega) h1 (fun k a b => h2 k a (by omega))

def NX (S : Nat → HS) (k : Nat) : Nat := (S k).nx
/-- The heap behind the operations of E. -/
def hS (ops : Array Oper) (S : Nat → HS) (E : Nat → Bool) (id : Nat) : Option AObj :=
  if id < (S (bet ops E ops.size)).nx then (S (bet ops E ops.size)).hp.get id
  else if id < (S ops.size).nx ∧ E (own (NX S) id ops.size) = true then (S (own (NX S) id ops.size + 1)).hp.get id else none

def Dn (ops : Array Oper) (E : Nat → Bool) : Prop := ∀ i j, i < ops.size → E i = true → bits ops i j = true → E j = true
def E1 (E : Nat → Bool) (i : Nat) : Nat → Bool := fun j => E j || decide (j = i)

section
variable {ops : Array Oper} {F : Nat → Fr} {S : Nat → HS} {M : Nat → List (Nat × Nat × Nat)} {V : Nat → Value} {E : Nat → Bool} {i : Nat}

theorem DC.ownK (d : DC P R lk sz ops F S M V) {id k : Nat} (hk : k < ops.size) (h1 : (S k).nx ≤ id) (h2 : id < (S (k + 1)).nx) : own (NX S) id ops.size = k :=
  own_uniq (N := NX S) (fun _ _ a b => d.mono a b) hk h1 h2
theorem DC.ownS (_d : DC P R lk sz ops F S M V) {id : Nat} (h1 : (S 0).nx ≤ id) (h2 : id < (S ops.size).nx) :
    own (NX S) id ops.size < ops.size ∧ (S (own (NX S) id ops.size)).nx ≤ id ∧ id < (S (own (NX S) id ops.size + 1)).nx := own_spec (N := NX S) _ h1 h2
theorem DC.ownL (d : DC P R lk sz ops F S M V) {id k : Nat} (hk : k < ops.size) (h1 : (S k).nx ≤ id) (h2 : id < (S (k + 1)).nx) : loudK ops k = true := by
  cases hl : loudK ops k with
  | true => rfl
  | false => have := (d.quiet hk hl).1; omega

theorem DC.loudLe (d : DC P R lk sz ops F S M V) (hE : Dn ops E) (hi : i < ops.size) (hl : loudK ops i = true) (hi' : E i = false) : bet ops E ops.size ≤ i := by
  obtain ⟨h1, h2, h3⟩ := bet_spec ops E ops.size
  rcases h2 with h2 | ⟨h2, h4⟩
  · omega
  · rcases Nat.lt_or_ge i (bet ops E ops.size) with hlt | hge
    · exfalso
      have hb : bet ops E ops.size - 1 < ops.size := by omega
      have hbar : barK ops (bet ops E ops.size - 1) = true := by unfold lbar at h4; simp only [Bool.and_eq_true] at h4; exact h4.2
      rcases bar_spec hbar hl hi with h5 | h5 | h5
      · rw [← h5, hi'] at h2; cases h2
      · have := hE _ _ hb h2 h5; rw [hi'] at this; cases this
      · have := d.bit_lt _ _ hi h5; omega
    · exact hge

theorem DC.noBar (d : DC P R lk sz ops F S M V) (hi : i < ops.size) (hl : loudK ops i = true) (hrd : ∀ j, bits ops i j = true → E j = true) {k : Nat} (hk : bet ops E ops.size ≤ k) (hki : k < i) : lbar ops k = false := by
  obtain ⟨h1, h2, h3⟩ := bet_spec ops E ops.size
  cases hb : lbar ops k with
  | false => rfl
  | true =>
    exfalso
    have hbar : barK ops k = true := by unfold lbar at hb; simp only [Bool.and_eq_true] at hb; exact hb.2
    have h4 := h3 k hk (by omega)
    rw [hb, Bool.and_true] at h4
    rcases bar_spec hbar hl hi with h5 | h5 | h5
    · omega
    · have := d.bit_lt _ _ (by omega) h5; omega
    · have := hrd k h5; rw [h4] at this; cases this

/-- What a loud operation sees lies in the heap behind E. -/
theorem DC.sees (d : DC P R lk sz ops F S M V) (hE : Dn ops E) (hi : i < ops.size) (hl : loudK ops i = true) (hi' : E i = false) (hrd : ∀ j, bits ops i j = true → E j = true) {id : Nat} {o : AObj}
    (h : (hid (S i) (badOf (M i) (rowK ops i))).hp.get id = some o) : id < (S i).nx ∧ hS ops S E id = some o := by
  have hβ := d.loudLe hE hi hl hi'
  have nb : ∀ k, bet ops E ops.size ≤ k → k < i → lbar ops k = false := fun k a b => d.noBar hi hl hrd a b
  rw [hid_get] at h
  split at h
  · cases h
  · rename_i hbad
    have hlt : id < (S i).nx := d.bnd (k := i) (by omega) id (by rw [h]; simp)
    refine ⟨hlt, ?_⟩
    unfold hS
    by_cases h1 : id < (S (bet ops E ops.size)).nx
    · rw [if_pos h1, ← d.lockR hβ (by omega) nb h1]; exact h
    · rw [if_neg h1]
      have h0 : (S 0).nx ≤ id := by have := d.mono (j := 0) (k := bet ops E ops.size) (Nat.zero_le _) (by omega); omega
      have hn : id < (S ops.size).nx := by have := d.mono (j := i) (k := ops.size) (by omega) (Nat.le_refl _); omega
      obtain ⟨o1, o2, o3⟩ := d.ownS h0 hn
      generalize own (NX S) id ops.size = k at *
      have hki : k < i := by
        rcases Nat.lt_or_ge k i with a | a
        · exact a
        · have := d.mono (j := i) (k := k) a (by omega); omega
      have hkβ : bet ops E ops.size ≤ k := by
        rcases Nat.lt_or_ge k (bet ops E ops.size) with a | a
        · have := d.mono (j := k + 1) (k := bet ops E ops.size) a (by omega); omega
        · exact a
      have hk : bits ops i k = true := by
        cases hb : bits ops i k with
        | true => rfl
        | false => exact absurd (d.inBadNew hi (raw_loud hl) ⟨k, hki, d.ownL o1 o2 o3, hb, o2, o3⟩) hbad
      rw [if_pos ⟨hn, hrd k hk⟩, ← d.lockR (k := k + 1) (m := i) hki (by omega) (fun j a b => nb j (by omega) b) o3]
      exact h

theorem hS_lt (d : DC P R lk sz ops F S M V) {id : Nat} (h : hS ops S E id ≠ none) : id < (S ops.size).nx := by
  unfold hS at h
  have hb := (bet_spec ops E ops.size).1
  split at h
  · rename_i h1; have := d.mono hb (Nat.le_refl _); omega
  · split at h
    · rename_i h1; exact h1.1
    · simp at h

/-- One more that writes nothing. -/
theorem hS_side (d : DC P R lk sz ops F S M V) (hE : Dn ops E) (hi : i < ops.size) (hi' : E i = false) (hb : lbar ops i = false) (id : Nat) :
    hS ops S (E1 E i) id = if (S i).nx ≤ id ∧ id < (S (i + 1)).nx then (S (i + 1)).hp.get id else hS ops S E id := by
  have he : bet ops (E1 E i) ops.size = bet ops E ops.size := bet_ext _ fun k hk => by
    unfold E1
    by_cases hki : k = i
    · subst hki; rw [hb]; simp
    · simp [hki]
  have hb1 := (bet_spec ops E ops.size).1
  have h0β := d.mono (j := 0) (k := bet ops E ops.size) (Nat.zero_le _) hb1
  unfold hS
  rw [he]
  by_cases hc : (S i).nx ≤ id ∧ id < (S (i + 1)).nx
  · rw [if_pos hc]
    have hβ := d.loudLe hE hi (d.ownL hi hc.1 hc.2) hi'
    have := d.mono hβ (by omega)
    rw [if_neg (by omega), d.ownK hi hc.1 hc.2]
    have := d.mono (j := i + 1) (k := ops.size) (by omega) (Nat.le_refl _)
    rw [if_pos ⟨by omega, by simp [E1]⟩]
  · rw [if_neg hc]
    split
    · rfl
    · rename_i h1
      by_cases hn : id < (S ops.size).nx
      · obtain ⟨o1, o2, o3⟩ := d.ownS (id := id) (by omega) hn
        have hne : own (NX S) id ops.size ≠ i := fun e => by rw [e] at o2 o3; exact hc ⟨o2, o3⟩
        have : E1 E i (own (NX S) id ops.size) = E (own (NX S) id ops.size) := by simp [E1, hne]
        rw [this]
      · rw [if_neg (fun h => hn h.1), if_neg (fun h => hn h.1)]

/-- What is loud and carried out stands ahead of a barrier in the text. -/
theorem DC.barE (d : DC P R lk sz ops F S M V) (hE : Dn ops E) (hi : i < ops.size) (hb : lbar ops i = true) (hi' : E i = false) (hrd : ∀ j, bits ops i j = true → E j = true) {k : Nat} (hk : k < ops.size)
    (hl : loudK ops k = true) (hne : k ≠ i) : (E k = true ↔ k < i) ∧ (k < i → bits ops i k = true) := by
  have hbar : barK ops i = true := by unfold lbar at hb; simp only [Bool.and_eq_true] at hb; exact hb.2
  rcases bar_spec hbar hl hk with h5 | h5 | h5
  · exact absurd h5 hne
  · have := d.bit_lt _ _ hi h5
    exact ⟨⟨fun _ => this, fun _ => hrd k h5⟩, fun _ => h5⟩
  · have h6 := d.bit_lt _ _ hk h5
    refine ⟨⟨fun h => ?_, fun h => by omega⟩, fun h => by omega⟩
    have := hE _ _ hk h h5; rw [hi'] at this; cases this

theorem lbar_loud (hb : lbar ops i = true) : loudK ops i = true := by unfold lbar at hb; simp only [Bool.and_eq_true] at hb; exact hb.1

theorem hS_bar (d : DC P R lk sz ops F S M V) (hE : Dn ops E) (hi : i < ops.size) (hb : lbar ops i = true) (hi' : E i = false) (hrd : ∀ j, bits ops i j = true → E j = true) (id : Nat) :
    (S i).hp.get id = hS ops S E id ∧ (S (i + 1)).hp.get id = hS ops S (E1 E i) id := by
  have hl := lbar_loud hb
  have hβ0 := d.loudLe hE hi hl hi'
  have nb0 : ∀ k, bet ops E ops.size ≤ k → k < i → lbar ops k = false := fun k a b => d.noBar hi hl hrd a b
  have badOld : ∀ id, Go.Ev.inBad (badOf (M i) (rowK ops i)) id = true → id < (S 0).nx := fun id h => by
    rcases d.inBad hi h with ⟨k, h1, h2, h3, h4, h5⟩ | h
    · have := (d.barE hE hi hb hi' hrd (by omega) h2 (by omega)).2 h1
      rw [h3] at this; cases this
    · exact h.2
  refine ⟨?_, ?_⟩
  · cases hg : hS ops S E id with
    | some o =>
      have hlt := hS_lt d (E := E) (id := id) (by rw [hg]; simp)
      have hβ := d.loudLe hE hi hl hi'
      have nb : ∀ k, bet ops E ops.size ≤ k → k < i → lbar ops k = false := fun k a b => d.noBar hi hl hrd a b
      unfold hS at hg
      split at hg
      · rename_i h1; rw [d.lockR hβ (by omega) nb h1]; exact hg
      · rename_i h1
        split at hg
        · rename_i h2
          have h0 : (S 0).nx ≤ id := by have := d.mono (j := 0) (k := bet ops E ops.size) (Nat.zero_le _) (by omega); omega
          obtain ⟨o1, o2, o3⟩ := d.ownS h0 hlt
          generalize own (NX S) id ops.size = k at *
          have hki : k < i := ((d.barE hE hi hb hi' hrd o1 (d.ownL o1 o2 o3) (fun e => by rw [e, hi'] at h2; cases h2.2)).1).1 h2.2
          have hkβ : bet ops E ops.size ≤ k := by
            rcases Nat.lt_or_ge k (bet ops E ops.size) with a | a
            · have := d.mono (j := k + 1) (k := bet ops E ops.size) a (by omega); omega
            · exact a
          rw [d.lockR (k := k + 1) (m := i) hki (by omega) (fun j a b => nb j (by omega) b) o3]
          exact hg
        · cases hg
    | none =>
      cases hs : (S i).hp.get id with
      | none => rfl
      | some o =>
        by_cases hbad : Go.Ev.inBad (badOf (M i) (rowK ops i)) id = true
        · have h0 := badOld id hbad
          have hm := d.mono (j := 0) (k := bet ops E ops.size) (Nat.zero_le _) (by omega)
          have : hS ops S E id = some o := by
            unfold hS
            rw [if_pos (by omega), ← d.lockR hβ0 (by omega) nb0 (by omega)]; exact hs
          rw [hg] at this; cases this
        · have := (d.sees hE hi hl hi' hrd (id := id) (o := o) (by rw [hid_get, if_neg hbad]; exact hs)).2
          rw [hg] at this; cases this
  · have he : bet ops (E1 E i) ops.size = i + 1 := by
      refine bet_top _ hi (by simp [E1, hb]) fun k h1 h2 => ?_
      cases hk : lbar ops k with
      | false => simp
      | true =>
        have := (d.barE hE hi hb hi' hrd h2 (lbar_loud hk) (by omega)).1
        cases hEk : E k with
        | true => have := this.1 hEk; omega
        | false => simp [E1, hEk, show k ≠ i by omega]
    unfold hS
    rw [he]
    split
    · rfl
    · rename_i h1
      have hnone : (S (i + 1)).hp.get id = none := by
        cases hs : (S (i + 1)).hp.get id with
        | none => rfl
        | some o => exact absurd (d.bnd (k := i + 1) (by omega) id (by rw [hs]; simp)) h1
      rw [hnone]
      split
      · rename_i h2
        exfalso
        have h0 : (S 0).nx ≤ id := by have := d.mono (j := 0) (k := i + 1) (Nat.zero_le _) (by omega); omega
        obtain ⟨o1, o2, o3⟩ := d.ownS h0 h2.1
        generalize own (NX S) id ops.size = k at *
        have hki : i < k := by
          rcases Nat.lt_or_ge i k with a | a
          · exact a
          · have := d.mono (j := k + 1) (k := i + 1) (by omega) (by omega); omega
        have hEk : E k = true := by have := h2.2; simp [E1, show k ≠ i by omega] at this; exact this
        have := ((d.barE hE hi hb hi' hrd o1 (d.ownL o1 o2 o3) (by omega)).1).1 hEk
        omega
      · rfl

/-- What a quiet load reads lies in the heap behind E. -/
theorem hS_quiet (d : DC P R lk sz ops F S M V) (hE : Dn ops E) (hi : i < ops.size) (hq : quietK ops i = true) (hi' : E i = false) (hrd : ∀ j, bits ops i j = true → E j = true) {b : Nat}
    (hl : loadBlk P.globals.size (F i) (ops[i]'hi) = some b) (hb0 : b < (S 0).nx) : hS ops S E b = (S i).hp.get b := by
  obtain ⟨h1, h2, h3⟩ := bet_spec ops E ops.size
  have h0k : ∀ k, k ≤ ops.size → b < (S k).nx := fun k hk => Nat.lt_of_lt_of_le hb0 (d.mono (Nat.zero_le _) hk)
  unfold hS
  rw [if_pos (h0k _ h1)]
  obtain ⟨_, ql, _, qb⟩ := quiet_spec hq
  rcases Nat.le_total (bet ops E ops.size) i with hle | hle
  · -- all that writes and stands ahead has been carried out
    have key : ∀ k, bet ops E ops.size ≤ k → k ≤ i → (S k).hp.get b = (S (bet ops E ops.size)).hp.get b := by
      intro k
      induction k with
      | zero => intro h _; rw [show bet ops E ops.size = 0 by omega]
      | succ k ih =>
        intro h5 h6
        by_cases hk : bet ops E ops.size = k + 1
        · rw [hk]
        · rw [← ih (by omega) (by omega)]
          cases hlb : lbar ops k with
          | false => exact d.lock (by omega) hlb (h0k k (by omega))
          | true =>
            rcases qb k (by omega) (by omega) with h7 | h7 | h7
            · have := h3 k (by omega) (by omega)
              rw [hrd k h7, hlb] at this; cases this
            · have := lbar_loud hlb
              unfold loudK at this
              rw [Array.getElem?_eq_getElem (by omega)] at this
              simp only [Option.any_some, h7, Bool.false_and] at this
              cases this
            · exact (d.loads (by omega) h7).2 b
    exact (key i hle (Nat.le_refl _)).symm
  · have hEb : bet ops E ops.size ≠ i → E (bet ops E ops.size - 1) = true ∧ lbar ops (bet ops E ops.size - 1) = true := fun hne => by
      rcases h2 with h2 | h2
      · omega
      · exact h2
    have key : ∀ k, i ≤ k → k ≤ bet ops E ops.size → (S k).hp.get b = (S i).hp.get b := by
      intro k
      induction k with
      | zero => intro h _; rw [show i = 0 by omega]
      | succ k ih =>
        intro h5 h6
        by_cases hk : i = k + 1
        · rw [hk]
        · rw [← ih (by omega) (by omega)]
          by_cases hki : i = k
          · subst hki; exact (d.loads hi ql).2 b
          · cases hlb : lbar ops k with
            | false => exact d.lock (by omega) hlb (h0k k (by omega))
            | true =>
              obtain ⟨e1, e2⟩ := hEb (by omega)
              have hbark : barK ops k = true := by unfold lbar at hlb; simp only [Bool.and_eq_true] at hlb; exact hlb.2
              have hbit : bits ops k i = false := by
                cases hbt : bits ops k i with
                | false => rfl
                | true =>
                  exfalso
                  have hEk : E k = true := by
                    by_cases hkl : k = bet ops E ops.size - 1
                    · rw [hkl]; exact e1
                    · have hbar2 : barK ops (bet ops E ops.size - 1) = true := by unfold lbar at e2; simp only [Bool.and_eq_true] at e2; exact e2.2
                      rcases bar_spec hbar2 (lbar_loud hlb) (by omega) with h7 | h7 | h7
                      · exact absurd h7 hkl
                      · exact hE _ _ (by omega) e1 h7
                      · have := d.bit_lt _ _ (by omega) h7; omega
                  have := hE _ _ (by omega) hEk hbt
                  rw [hi'] at this; cases this
              have hbad := d.inBadOld (i := k) (by omega) (raw_loud (lbar_loud hlb)) hbark hq (by omega) hbit (Array.getElem?_eq_getElem hi) hl
              obtain ⟨s1, _, _, r3, _⟩ := d.at (Array.getElem?_eq_getElem (show k < ops.size by omega))
              rw [r3, unh_get, if_pos hbad]
    exact key _ hle (Nat.le_refl _)
end
end Go.Ev
