/- A region that draws its order: whatever order the model draws, the clean run in the text's order tells what comes of it. -/
import Derived.Test.YthedojfbofcefaaDoorEvAb
namespace Go.Ev
open Go
variable {P : Program} {R : Rec} {φ : Inj} {sz lk B : Nat} {ro : Option Nat} {fr : Fr} {s : HS} {a : Act} {w : World}

/-! ### An operation looks at its operands alone -/
theorem omap_congr {α β : Type} {f g : α → Option β} : ∀ {xs : List α}, (∀ x ∈ xs, f x = g x) → omap f xs = omap g xs := by
  intro xs
  induction xs with
  | nil => intro _; rfl
  | cons x xs ih => intro h; simp only [omap]; rw [h x (by simp), ih (fun y hy => h y (by simp [hy]))]

theorem opA_congr {fr2 : Fr} (o : Oper) (h : ∀ x ∈ o.op.operands, opdA P.globals.size fr x = opdA P.globals.size fr2 x) : opA P R lk fr s o = opA P R lk fr2 s o := by
  obtain ⟨dst, op, type, pos, after, guard⟩ := o
  have pairs : ∀ ps : Array (Nat × Operand), (∀ x ∈ (ps.toList.map (·.2)).toArray, opdA P.globals.size fr x = opdA P.globals.size fr2 x) →
      omap (fun (p : Nat × Operand) => (opdA P.globals.size fr p.2).map fun v => (p.1, v)) ps.toList = omap (fun (p : Nat × Operand) => (opdA P.globals.size fr2 p.2).map fun v => (p.1, v)) ps.toList :=
    fun ps hp => omap_congr fun p hm => by rw [hp p.2 (by simp only [List.mem_toArray, List.mem_map]; exact ⟨p, hm, rfl⟩)]
  have opd : ∀ x : Option Operand, (∀ y, x = some y → opdA P.globals.size fr y = opdA P.globals.size fr2 y) → opdO P.globals.size fr x = opdO P.globals.size fr2 x := fun x hx => by
    cases x with
    | none => rfl
    | some y => simp only [opdO]; rw [hx y rfl]
  cases op <;> simp only [Op.operands] at h <;> simp only [opA]
  case build t ps => rw [pairs ps h]
  case buildSlice t n ps => rw [pairs ps h]
  case makeFunc fn first captured =>
    cases fn <;> simp only
    rw [omap_congr (xs := first.toList) (g := opdA P.globals.size fr2) fun x hx => h x (by simp at hx; simp [hx]),
      omap_congr (xs := captured.toList) (g := opdA P.globals.size fr2) fun x hx => h x (by simp at hx; simp [hx])]
  case call c =>
    have h1 : omap (opdA P.globals.size fr) c.args.toList = omap (opdA P.globals.size fr2) c.args.toList := omap_congr fun x hx => h x (by simp [Call.operands]; right; simpa using hx)
    rw [h1]
    cases hc : c.callee with
    | value f => simp only; rw [h f (by simp [Call.operands, hc])]
    | invoke r m => rfl
    | builtin b => rfl
  case slice t x lo hi mx =>
    rw [h x (by simp), opd lo (fun y hy => h y (by simp [hy])), opd hi (fun y hy => h y (by simp [hy])), opd mx (fun y hy => h y (by simp [hy]))]
  case makeMap t r => cases r <;> rfl
  all_goals (first | rfl | (simp_all; done))

/-- The value of a step. -/
def stepV (P : Program) (R : Rec) (lk : Nat) (ops : List Oper) (fr : Fr) (s : HS) (o : Oper) : Option (Value × HS) :=
  (wantedA ops fr o).bind fun w => if w then opA P R lk fr s o else some (undef, s)

theorem stepA_eq (ops : List Oper) (o : Oper) : stepA P R lk sz ops fr s o = (stepV P R lk ops fr s o).bind fun p => (setA sz fr o.dst p.1).map fun fr' => (fr', p.2) := by
  unfold stepA stepV
  cases wantedA ops fr o with
  | none => rfl
  | some b => cases b <;> simp

theorem stepV_congr {fr2 : Fr} {ops : Array Oper} {o : Oper} (h : ∀ t ∈ o.looksAt ops, fr.get t = fr2.get t) : stepV P R lk ops.toList fr s o = stepV P R lk ops.toList fr2 s o := by
  unfold stepV
  have h1 : wantedA ops.toList fr o = wantedA ops.toList fr2 o := by
    unfold wantedA
    cases hg : o.guard with
    | none => rfl
    | some gw =>
      obtain ⟨j, want⟩ := gw
      simp only
      cases hj : ops.toList[j]? with
      | none => rfl
      | some g =>
        simp only [Option.bind_some]
        cases hd : g.dst with
        | none => rfl
        | some d =>
          simp only [Option.bind_some]
          rw [h d ?_]
          unfold Oper.looksAt
          refine List.mem_append_right _ ?_
          rw [hg]
          rw [Array.getElem?_toList] at hj
          simp [hj, hd]
  rw [h1, opA_congr (fr2 := fr2) o (fun x hx => ?_)]
  cases x with
  | tmp t => exact h t (List.mem_append_left _ (List.mem_filterMap.2 ⟨.tmp t, by simpa using hx, rfl⟩))
  | _ => rfl

/-- An operation that is not loud knows nothing of memory. -/
theorem opA_pure {o : Oper} {v : Value} {s' : HS} (hl : loudA o.op = false) (h : opA P R lk fr s o = some (v, s')) : s' = s ∧ ∀ lk2 s2, opA P R lk2 fr s2 o = some (v, s2) := by
  obtain ⟨dst, op, type, pos, after, guard⟩ := o
  cases op <;> simp only [loudA, Bool.true_eq_false] at hl <;> simp only [opA] at h ⊢
  case move x => obtain ⟨h1, rfl⟩ := val_inv h; exact ⟨rfl, fun _ s2 => by rw [h1]; rfl⟩
  case assign x => obtain ⟨h1, rfl⟩ := val_inv h; exact ⟨rfl, fun _ s2 => by rw [h1]; rfl⟩
  case pick c x y =>
    obtain ⟨u, h1, h2⟩ := bind_inv h
    cases u <;> first | (cases h2; done) | skip
    obtain ⟨h3, rfl⟩ := val_inv h2
    exact ⟨rfl, fun _ s2 => by rw [h1]; simp only [Option.bind_some]; rw [h3]; rfl⟩
  case build t ps =>
    obtain ⟨u, h1, h2⟩ := bind_inv h
    obtain ⟨h3, rfl⟩ := val_inv h2
    exact ⟨rfl, fun _ s2 => by rw [h1]; simp only [Option.bind_some]; rw [h3]; rfl⟩
  case nilCheck x =>
    obtain ⟨u, h1, h2⟩ := bind_inv h
    rw [h1]; simp only [Option.bind_some]
    split at h2 <;> (cases h2; try exact ⟨rfl, fun _ s2 => rfl⟩)
  case binOp op t x y t2 =>
    obtain ⟨u, h1, h2⟩ := bind_inv h
    obtain ⟨u2, h3, h4⟩ := bind_inv h2
    obtain ⟨h5, rfl⟩ := val_inv h4
    exact ⟨rfl, fun _ s2 => by rw [h1, h3]; simp only [Option.bind_some]; rw [h5]; rfl⟩
  case unOp op t x =>
    obtain ⟨u, h1, h2⟩ := bind_inv h
    obtain ⟨h3, rfl⟩ := val_inv h2
    exact ⟨rfl, fun _ s2 => by rw [h1]; simp only [Option.bind_some]; rw [h3]; rfl⟩
  case convert t t2 x =>
    obtain ⟨u, h1, h2⟩ := bind_inv h
    obtain ⟨h3, rfl⟩ := val_inv h2
    exact ⟨rfl, fun _ s2 => by rw [h1]; simp only [Option.bind_some]; rw [h3]; rfl⟩
  case makeFunc fn fi ca =>
    cases fn <;> simp only at h ⊢ <;> first | (cases h; done) | skip
    obtain ⟨u, h1, h2⟩ := bind_inv h
    obtain ⟨u2, h3, h4⟩ := bind_inv h2
    cases h4
    exact ⟨rfl, fun _ s2 => by rw [h1, h3]; rfl⟩
  case fieldAddr t x f =>
    obtain ⟨u, h1, h2⟩ := bind_inv h
    obtain ⟨h3, rfl⟩ := val_inv h2
    exact ⟨rfl, fun _ s2 => by rw [h1]; simp only [Option.bind_some]; rw [h3]; rfl⟩
  case field t x f =>
    obtain ⟨u, h1, h2⟩ := bind_inv h
    obtain ⟨h3, rfl⟩ := val_inv h2
    exact ⟨rfl, fun _ s2 => by rw [h1]; simp only [Option.bind_some]; rw [h3]; rfl⟩
  case indexAddr t x i =>
    obtain ⟨u, h1, h2⟩ := bind_inv h
    obtain ⟨u2, h3, h4⟩ := bind_inv h2
    obtain ⟨h5, rfl⟩ := val_inv h4
    exact ⟨rfl, fun _ s2 => by rw [h1, h3]; simp only [Option.bind_some]; rw [h5]; rfl⟩
  case index t x i =>
    obtain ⟨u, h1, h2⟩ := bind_inv h
    obtain ⟨u2, h3, h4⟩ := bind_inv h2
    obtain ⟨h5, rfl⟩ := val_inv h4
    exact ⟨rfl, fun _ s2 => by rw [h1, h3]; simp only [Option.bind_some]; rw [h5]; rfl⟩
  case extract t i =>
    obtain ⟨u, h1, h2⟩ := bind_inv h
    rw [h1]; simp only [Option.bind_some]
    split at h2
    · obtain ⟨h3, rfl⟩ := val_inv h2
      exact ⟨rfl, fun _ s2 => by rw [h3]; rfl⟩
    · cases h2

theorem stepV_pure {ops : List Oper} {o : Oper} {v : Value} {s' : HS} (hl : loudA o.op = false) (h : stepV P R lk ops fr s o = some (v, s')) : s' = s ∧ ∀ lk2 s2, stepV P R lk2 ops fr s2 o = some (v, s2) := by
  unfold stepV at h ⊢
  obtain ⟨b, h1, h2⟩ := bind_inv h
  rw [h1]
  cases b with
  | true =>
    simp only [if_true] at h2
    obtain ⟨h3, h4⟩ := opA_pure hl h2
    exact ⟨h3, fun lk2 s2 => by simp [h4 lk2 s2]⟩
  | false =>
    simp only [Bool.false_eq_true, if_false, Option.some.injEq, Prod.mk.injEq] at h2
    obtain ⟨rfl, rfl⟩ := h2
    exact ⟨rfl, fun lk2 s2 => by simp⟩

/-- A load leaves memory alone, and looks at one block. -/
theorem opA_load {o : Oper} {v : Value} {s' : HS} (hl : isLoad o.op = true) (h : opA P R lk fr s o = some (v, s')) : s' = s ∧ ∃ b, loadBlk P.globals.size fr o = some b ∧ s.hp.get b ≠ none ∧
    ∀ lk2 (s2 : HS), s2.hp.get b = s.hp.get b → opA P R lk2 fr s2 o = some (v, s2) := by
  obtain ⟨dst, op, type, pos, after, guard⟩ := o
  cases op <;> simp only [isLoad, Bool.false_eq_true] at hl
  rename_i t a
  simp only [opA] at h ⊢
  obtain ⟨u, h1, h2⟩ := bind_inv h
  obtain ⟨h3, rfl⟩ := val_inv h2
  refine ⟨rfl, ?_⟩
  unfold loadV at h3
  split at h3
  · rename_i ad
    refine ⟨ad.block, by unfold loadBlk; simp only [h1], ?_, fun lk2 s2 he => ?_⟩
    · intro hn
      obtain ⟨⟨n, g⟩, _, h5⟩ := bind_inv h3
      obtain ⟨cs, h6, _⟩ := bind_inv h5
      unfold readA at h6
      rw [hn] at h6
      split at h6
      · rename_i h7; cases h7
      · cases h6
    · rw [h1]
      simp only [Option.bind_some]
      have : loadV P s2.hp t (.pointer (some ad)) = some v := by
        rw [← h3]
        show ((tyA P t).bind fun x => (readA s2.hp ad x.1).bind (packA x.2)) = (tyA P t).bind fun x => (readA s'.hp ad x.1).bind (packA x.2)
        have hr : ∀ n, readA s2.hp ad n = readA s'.hp ad n := fun n => by unfold readA; rw [he]
        simp only [hr]
      rw [this]; rfl
  · cases h3

theorem stepV_load {ops : List Oper} {o : Oper} {v : Value} {s' : HS} (hl : isLoad o.op = true) (h : stepV P R lk ops fr s o = some (v, s')) : s' = s := by
  unfold stepV at h
  obtain ⟨b, h1, h2⟩ := bind_inv h
  cases b with
  | true => exact (opA_load hl h2).1
  | false =>
    simp only [Bool.false_eq_true, if_false, Option.some.injEq, Prod.mk.injEq] at h2
    exact h2.2.symm

theorem stepV_quiet {ops : List Oper} {o : Oper} {v : Value} {s' : HS} (hl : isLoad o.op = true) (hg : o.guard = none) (h : stepV P R lk ops fr s o = some (v, s')) : s' = s ∧ ∃ b, loadBlk P.globals.size fr o = some b ∧ s.hp.get b ≠ none ∧
    ∀ lk2 (s2 : HS), s2.hp.get b = s.hp.get b → stepV P R lk2 ops fr s2 o = some (v, s2) := by
  have hw : wantedA ops fr o = some true := by unfold wantedA; rw [hg]
  unfold stepV at h ⊢
  rw [hw] at h ⊢
  simp only [Option.bind_some, if_true] at h ⊢
  exact opA_load hl h

/-! ### The frame behind some of the operations -/
def dstOf (ops : Array Oper) (k : Nat) : Option Tmp := (ops[k]?).bind (·.dst)
def wrT (f0 : Fr) (ops : Array Oper) (V : Nat → Value) (E : Nat → Bool) : Nat → Fr
  | 0 => f0
  | k + 1 => match E k, dstOf ops k with
    | true, some d => (wrT f0 ops V E k).put d (some (V k))
    | _, _ => wrT f0 ops V E k

theorem wrT_agree {f0 : Fr} {ops : Array Oper} {V : Nat → Value} {E E' : Nat → Bool} {t : Nat} : ∀ m, (∀ j, j < m → dstOf ops j = some t → E j = E' j) → (wrT f0 ops V E m).get t = (wrT f0 ops V E' m).get t := by
  intro m
  induction m with
  | zero => intro _; rfl
  | succ m ih =>
    intro h
    have ih' := ih (fun j hj => h j (by omega))
    simp only [wrT]
    cases hd : dstOf ops m with
    | none => cases E m <;> cases E' m <;> exact ih'
    | some d =>
      by_cases hdt : d = t
      · subst hdt
        rw [h m (by omega) hd]
        cases E' m with
        | true => simp only; rw [T.get_put_eq, T.get_put_eq]
        | false => exact ih'
      · cases E m <;> cases E' m <;> simp only <;> (try rw [T.get_put_ne _ _ _ (Ne.symm hdt)]) <;> (try rw [T.get_put_ne _ _ _ (Ne.symm hdt)]) <;> exact ih'

theorem wrT_lt {f0 : Fr} {ops : Array Oper} {V : Nat → Value} {i : Nat} : ∀ m, i ≤ m → wrT f0 ops V (fun j => decide (j < i)) m = wrT f0 ops V (fun _ => true) i := by
  intro m
  induction m with
  | zero => intro h; have : i = 0 := by omega
            subst this; rfl
  | succ m ih =>
    intro h
    by_cases hm : i ≤ m
    · simp only [wrT]
      rw [decide_eq_false (by omega)]
      exact ih hm
    · have : i = m + 1 := by omega
      subst this
      have key : ∀ k, k ≤ m + 1 → wrT f0 ops V (fun j => decide (j < m + 1)) k = wrT f0 ops V (fun _ => true) k := by
        intro k
        induction k with
        | zero => intro _; rfl
        | succ k ihk =>
          intro hk
          simp only [wrT]
          rw [decide_eq_true (by omega), ihk (by omega)]
      exact key (m + 1) (Nat.le_refl _)

/-- One more. -/
theorem wrT_more {f0 : Fr} {ops : Array Oper} {V : Nat → Value} {E : Nat → Bool} {i t : Nat} : ∀ m, i < m → E i = false → (∀ j, i < j → j < m → ∀ d, dstOf ops i = some d → dstOf ops j = some d → E j = false) →
    (wrT f0 ops V (fun j => E j || decide (j = i)) m).get t = if dstOf ops i = some t then some (V i) else (wrT f0 ops V E m).get t := by
  intro m
  induction m with
  | zero => intro h; omega
  | succ m ih =>
    intro h hE hlast
    by_cases hm : i = m
    · subst hm
      have same : ∀ k, k ≤ i → wrT f0 ops V (fun j => E j || decide (j = i)) k = wrT f0 ops V E k := by
        intro k
        induction k with
        | zero => intro _; rfl
        | succ k ihk =>
          intro hk
          simp only [wrT]
          rw [ihk (by omega), decide_eq_false (show ¬ k = i by omega), Bool.or_false]
      simp only [wrT]
      rw [same i (Nat.le_refl _), hE]
      simp only [decide_true, Bool.or_true]
      cases hd : dstOf ops i with
      | none => simp
      | some d =>
        by_cases hdt : d = t
        · subst hdt; simp [T.get_put_eq]
        · simp [T.get_put_ne _ _ _ (Ne.symm hdt), hdt]
    · have hi : i < m := by omega
      have ih' := ih hi hE (fun j h1 h2 => hlast j h1 (by omega))
      simp only [wrT]
      rw [decide_eq_false (show ¬ m = i by omega), Bool.or_false]
      cases hEm : E m with
      | false => exact ih'
      | true =>
        cases hd : dstOf ops m with
        | none => exact ih'
        | some d =>
          simp only
          by_cases hdt : d = t
          · subst hdt
            rw [T.get_put_eq, T.get_put_eq]
            split
            · rename_i hdi
              have := hlast m hi (Nat.lt_succ_self _) d hdi hd
              rw [hEm] at this; cases this
            · rfl
          · rw [T.get_put_ne _ _ _ (Ne.symm hdt), T.get_put_ne _ _ _ (Ne.symm hdt)]; exact ih'

/-! ### What stands ahead of an operation -/
def maskOf (acc : Array Nat) (o : Oper) : Nat := o.after.foldl (fun s e => if Region.binds .any e then s ||| 2 ^ e.on ||| acc.getD e.on 0 else s) 0

theorem mask_bit {acc : Array Nat} {o : Oper} {j : Nat} (h : (maskOf acc o).testBit j = true) : ∃ e ∈ o.after, Region.binds .any e = true ∧ (e.on = j ∨ (acc.getD e.on 0).testBit j = true) := by
  unfold maskOf at h
  rw [← Array.foldl_toList] at h
  have key : ∀ (l : List Edge) (s0 : Nat), (l.foldl (fun s e => if Region.binds .any e then s ||| 2 ^ e.on ||| acc.getD e.on 0 else s) s0).testBit j = true →
      s0.testBit j = true ∨ ∃ e ∈ l, Region.binds .any e = true ∧ (e.on = j ∨ (acc.getD e.on 0).testBit j = true) := by
    intro l
    induction l with
    | nil => intro s0 h; exact Or.inl h
    | cons e l ih =>
      intro s0 h
      simp only [List.foldl_cons] at h
      rcases ih _ h with h1 | ⟨e1, h1, h2⟩
      · by_cases hb : Region.binds .any e = true
        · rw [if_pos hb] at h1
          simp only [Nat.testBit_or, Bool.or_eq_true] at h1
          rcases h1 with (h1 | h1) | h1
          · exact Or.inl h1
          · rw [Nat.testBit_two_pow] at h1
            exact Or.inr ⟨e, by simp, hb, Or.inl (by simpa using h1)⟩
          · exact Or.inr ⟨e, by simp, hb, Or.inr h1⟩
        · rw [if_neg hb] at h1; exact Or.inl h1
      · exact Or.inr ⟨e1, by simp [h1], h2⟩
  rcases key _ _ h with h1 | ⟨e, h1, h2⟩
  · simp at h1
  · exact ⟨e, by simpa using h1, h2⟩

theorem before_at (ops : Array Oper) : ∀ (i : Nat) (o : Oper), ops[i]? = some o → ∃ acc : Array Nat, (Region.before ops).getD i 0 = maskOf acc o ∧ ∀ j, j < i → acc.getD j 0 = (Region.before ops).getD j 0 := by
  have key : ∀ (l : List Oper) (acc : Array Nat), (∀ j, j < acc.size → (l.foldl (fun acc o => acc.push (maskOf acc o)) acc).getD j 0 = acc.getD j 0) ∧
      (∀ k o, l[k]? = some o → ∃ acc' : Array Nat, acc'.size = acc.size + k ∧ (l.foldl (fun acc o => acc.push (maskOf acc o)) acc).getD (acc.size + k) 0 = maskOf acc' o ∧
        ∀ j, j < acc.size + k → acc'.getD j 0 = (l.foldl (fun acc o => acc.push (maskOf acc o)) acc).getD j 0) := by
    intro l
    induction l with
    | nil => intro acc; exact ⟨fun _ _ => rfl, fun k o h => by simp at h⟩
    | cons x l ih =>
      intro acc
      obtain ⟨h1, h2⟩ := ih (acc.push (maskOf acc x))
      simp only [List.foldl_cons]
      refine ⟨fun j hj => ?_, fun k o hk => ?_⟩
      · rw [h1 j (by simp; omega)]
        simp only [Array.getD_eq_getD_getElem?, Array.getElem?_push]
        rw [if_neg (by omega)]
      · cases k with
        | zero =>
          simp only [List.getElem?_cons_zero, Option.some.injEq] at hk; subst hk
          refine ⟨acc, by simp, ?_, fun j hj => ?_⟩
          · rw [h1 _ (by simp)]; simp
          · rw [h1 j (by simp; omega)]
            simp only [Array.getD_eq_getD_getElem?, Array.getElem?_push]
            rw [if_neg (by omega)]
        | succ k =>
          simp only [List.getElem?_cons_succ] at hk
          obtain ⟨acc', e1, e2, e3⟩ := h2 k o hk
          simp only [Array.size_push] at e1 e2 e3
          exact ⟨acc', by omega, by rw [show acc.size + (k + 1) = acc.size + 1 + k by omega]; exact e2, fun j hj => e3 j (by omega)⟩
  intro i o ho
  have := (key ops.toList #[]).2 i o (by simpa using ho)
  obtain ⟨acc', _, e2, e3⟩ := this
  have eb : Region.before ops = ops.toList.foldl (fun acc o => acc.push (maskOf acc o)) #[] := by
    unfold Region.before maskOf
    rw [← Array.foldl_toList]
  rw [eb]
  simp only [Array.size_empty, Nat.zero_add] at e2 e3
  exact ⟨acc', e2, e3⟩

end Go.Ev
