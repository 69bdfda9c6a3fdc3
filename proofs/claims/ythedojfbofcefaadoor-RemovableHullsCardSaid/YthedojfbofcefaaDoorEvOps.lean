/- The operations, one by one: what the clean state's answer is in the model's world. First those that make no block and write none. -/
import Derived.Test.YthedojfbofcefaaDoorEvMem
import Derived.Laws.StructEq
namespace Go.Ev
open Go
variable {P : Program} {φ : Inj} {lk : Nat} {s : HS} {w : World}

/-! ### Types -/
theorem tyA_run {t : TypeId} {n : Nat} {g : Bool} (h : tyA P t = some (n, g)) (w : World) : (sizeOf t).run P w = .ok n w ∧ (isAgg t).run P w = .ok g w := by
  unfold tyA at h
  split at h
  · rename_i i fs h1 h2; cases h; simp [sizeOf, typeInfo, h1, isAgg, run_underlying h2]
  · rename_i i a b h1 h2; cases h; simp [sizeOf, typeInfo, h1, isAgg, run_underlying h2]
  · rename_i i d hs ha h1 h2
    cases h
    refine ⟨by simp [sizeOf, typeInfo, h1], ?_⟩
    cases d with
    | struct fs => exact (hs fs rfl).elim
    | array a b => exact (ha a b rfl).elim
    | _ => simp [isAgg, run_underlying h2]
  · cases h
theorem szA_run {t : TypeId} {n : Nat} (h : szA P t = some n) (w : World) : (sizeOf t).run P w = .ok n w := by
  unfold szA at h
  cases hi : P.info? t with
  | none => rw [hi] at h; cases h
  | some i => rw [hi] at h; cases h; simp [sizeOf, typeInfo, hi]
theorem bytesA_run {t : TypeId} {n : Nat} (h : bytesA P t = some n) (w : World) : ∃ i : TypeInfo, (typeInfo t).run P w = .ok i w ∧ i.bytes = n := by
  unfold bytesA at h
  cases hi : P.info? t with
  | none => rw [hi] at h; cases h
  | some i => rw [hi] at h; cases h; exact ⟨i, by simp [typeInfo, hi], rfl⟩
theorem zeroA_run {t : TypeId} {z : Value} (h : zeroA P t = some z) (w : World) : (zeroValue t).run P w = .ok z w ∧ plainN 4 z = true := by
  unfold zeroA at h
  cases hi : P.info? t with
  | none => rw [hi] at h; cases h
  | some i =>
    rw [hi] at h
    simp only [Option.bind_some] at h
    cases hz : i.zero with
    | none => rw [hz] at h; cases h
    | some v =>
      rw [hz] at h
      simp only [Option.bind_some] at h
      cases hp : plainN 4 v with
      | false => rw [hp] at h; cases h
      | true => rw [hp] at h; cases h; exact ⟨by simp [zeroValue, typeInfo, hi, hz], hp⟩
theorem elemA_und {t e : TypeId} (h : elemA P t = some e) : P.underlying t = some (.slice e) := by
  unfold elemA at h; split at h
  · cases h; assumption
  · cases h
theorem mapA_und {t k e : TypeId} (h : mapA P t = some (k, e)) : P.underlying t = some (.map k e) := by
  unfold mapA at h; split at h
  · cases h; assumption
  · cases h

/-! ### Aggregates and their parts -/
theorem packA_rel {g : Bool} {vs vs' : List Value} {v : Value} (hr : LR φ vs vs') (h : packA g vs = some v) : ∃ v', packA g vs' = some v' ∧ VR φ v v' := by
  unfold packA at h ⊢
  cases g with
  | true => simp only [if_true] at h ⊢; cases h; exact ⟨_, rfl, VR.agg' hr⟩
  | false =>
    simp only [Bool.false_eq_true, if_false] at h ⊢
    match vs, h with
    | [x], h =>
      cases h
      obtain ⟨y, ys, rfl, h1, h2⟩ := hr.cons_inv
      have := h2.nil_inv; subst this
      exact ⟨y, rfl, h1⟩

theorem LR.cut {cs ds : List Value} (h : LR φ cs ds) {off n : Nat} {vs : List Value} (e : cutL cs off n = some vs) : ∃ vs', cutL ds off n = some vs' ∧ LR φ vs vs' := by
  obtain ⟨h1, rfl⟩ := cutL_inv e
  refine ⟨(ds.drop off).take n, ?_, (h.drop off).take n⟩
  unfold cutL; rw [if_pos (by rw [← h.1]; exact h1)]

theorem partA_rel {t : TypeId} {cs ds : List Value} {off : Nat} {v : Value} (hr : LR φ cs ds) (h : partA P t cs off = some v) : ∃ v', partA P t ds off = some v' ∧ VR φ v v' := by
  unfold partA at h ⊢
  cases ht : tyA P t with
  | none => rw [ht] at h; cases h
  | some x =>
    obtain ⟨n, g⟩ := x
    rw [ht] at h
    simp only [Option.bind_some] at h ⊢
    cases hc : cutL cs off n with
    | none => rw [hc] at h; cases h
    | some vs =>
      rw [hc] at h
      obtain ⟨vs', h1, h2⟩ := hr.cut hc
      rw [h1]; exact packA_rel h2 h

theorem partA_run {t : TypeId} {ds : Array Value} {off : Nat} {v : Value} (h : partA P t ds.toList off = some v) (w : World) : (part t ds off).run P w = .ok v w := by
  unfold partA at h
  cases ht : tyA P t with
  | none => rw [ht] at h; cases h
  | some x =>
    obtain ⟨n, g⟩ := x
    rw [ht] at h
    simp only [Option.bind_some] at h
    obtain ⟨h1, h2⟩ := tyA_run ht w
    cases hc : cutL ds.toList off n with
    | none => rw [hc] at h; cases h
    | some vs =>
      rw [hc] at h
      simp only [Option.bind_some] at h
      obtain ⟨hl, rfl⟩ := cutL_inv hc
      cases g with
      | true =>
        simp only [packA, if_true, Option.some.injEq] at h
        subst h
        simp only [part, Sem.run_bind, h2, Result.andThen_ok, if_true, h1, Sem.run_pure]
        congr 2
        apply Array.ext'
        simp [List.extract_eq_take_drop]
      | false =>
        simp only [packA, Bool.false_eq_true, if_false] at h
        split at h
        · rename_i x hx
          cases h
          have : ds.toList[off]? = some v := by
            have hn : 0 < n := by
              rcases Nat.eq_zero_or_pos n with h0 | h0
              · subst h0; simp at hx
              · exact h0
            have := getElem?_drop_take (l := ds.toList) (a := off) hn
            rw [hx] at this; simpa using this.symm
          simp only [part, Sem.run_bind, h2, Result.andThen_ok, Bool.false_eq_true, if_false]
          rw [Array.getElem?_toList] at this
          simp [this]
        · cases h

/-! ### Loads -/
theorem loadV_sound (H : HR P φ s w) {t : TypeId} {a a' v : Value} (ha : VR φ a a') (h : loadV P s.hp t a = some v) : ∃ v', (Instr.loadAt t a').run P w = .ok v' w ∧ VR φ v v' := by
  unfold loadV at h
  split at h
  · rename_i ad
    cases ht : tyA P t with
    | none => rw [ht] at h; cases h
    | some x =>
      obtain ⟨n, g⟩ := x
      rw [ht] at h
      simp only [Option.bind_some] at h
      obtain ⟨h1, h2⟩ := tyA_run ht w
      cases hrd : readA s.hp ad n with
      | none => rw [hrd] at h; cases h
      | some vs =>
        rw [hrd] at h
        simp only [Option.bind_some] at h
        cases ha with
        | ptr id off im hφ =>
          obtain ⟨vs', hl, hn, hc⟩ := readA_sound H hrd hφ
          obtain ⟨v', hp, hv⟩ := packA_rel hl h
          refine ⟨v', ?_, hv⟩
          have hld := run_load_row P w im.blk (im.sh + off) vs' hc
          rw [hn] at hld
          cases g with
          | true =>
            simp only [packA, if_true, Option.some.injEq] at hp
            subst hp
            simp [Instr.loadAt, Instr.sureAddr, loadVar, h1, h2, hld]
          | false =>
            simp only [packA, Bool.false_eq_true, if_false] at hp
            split at hp
            · rename_i x
              cases hp
              have := hc 0 v' rfl
              simp only [Nat.add_zero] at this
              simp [Instr.loadAt, Instr.sureAddr, loadVar, h2, this]
            · cases hp
  · cases h

/-! ### Operators -/
theorem eqFields_run {d : Nat} (hd : ∀ (t : TypeId) (x y x' y' : Value) (b : Bool), VR φ x x' → VR φ y y' → eqA P d t x y = some b → (Op.equalIn d t x' y').run P w = .ok b w)
    {xs ys xs' ys' : Array Value} (hx : LR φ xs.toList xs'.toList) (hy : LR φ ys.toList ys'.toList) : ∀ (fs : List Field) (b : Bool),
    eqFields P (eqA P d) xs.toList ys.toList fs = some b → (Op.eqFields d xs' ys' fs).run P w = .ok b w := by
  intro fs
  induction fs with
  | nil => intro b h; simp only [eqFields, Option.some.injEq] at h; subst h; simp [Op.eqFields]
  | cons f fs ih =>
    intro b h
    simp only [eqFields] at h
    by_cases hn : f.name = "_"
    · rw [if_pos hn] at h
      simp only [Op.eqFields, hn, ne_eq, not_true_eq_false, if_false]
      exact ih b h
    · rw [if_neg hn] at h
      cases ha : partA P f.type xs.toList f.offset with
      | none => rw [ha] at h; cases h
      | some a =>
        rw [ha] at h; simp only [Option.bind_some] at h
        cases hb : partA P f.type ys.toList f.offset with
        | none => rw [hb] at h; cases h
        | some c =>
          rw [hb] at h; simp only [Option.bind_some] at h
          obtain ⟨a', ha1, ha2⟩ := partA_rel hx ha
          obtain ⟨c', hb1, hb2⟩ := partA_rel hy hb
          cases he : eqA P d f.type a c with
          | none => rw [he] at h; cases h
          | some r =>
            rw [he] at h; simp only [Option.bind_some] at h
            have hr := hd _ _ _ _ _ _ ha2 hb2 he
            simp only [Op.eqFields, ne_eq, hn, not_false_eq_true, if_true, Sem.run_bind, partA_run ha1 w, partA_run hb1 w, hr, Result.andThen_ok, Sem.run_ite]
            cases r with
            | true => simp only [if_true] at h; simp only [Bool.not_true, Bool.false_eq_true, if_false]; exact ih b h
            | false => simp only [Bool.false_eq_true, if_false, Option.some.injEq] at h; subst h; simp

theorem eqA_run : ∀ (d : Nat) (t : TypeId) (x y x' y' : Value) (b : Bool), VR φ x x' → VR φ y y' → eqA P d t x y = some b → (Op.equalIn d t x' y').run P w = .ok b w := by
  intro d
  induction d with
  | zero => intro t x y x' y' b _ _ h; simp [eqA] at h
  | succ d ih =>
    intro t x y x' y' b hx hy h
    unfold eqA at h
    split at h
    · rename_i hu; cases hx; cases hy; cases h; simp [Op.equalIn, run_underlying hu]
    · rename_i hu
      cases hx; cases hy
      split at h
      · rename_i hk; cases h; simp [Op.equalIn, run_underlying hu, hk]
      · cases h
    · rename_i hu; cases hx; cases hy; cases h; simp [Op.equalIn, run_underlying hu]
    · rename_i hu; cases hx; cases h; cases hy <;> simp [Op.equalIn, run_underlying hu]
    · rename_i hu; cases hx; cases hy; cases h; simp [Op.equalIn, run_underlying hu]
    · rename_i hu; cases hx; cases h; cases hy <;> simp [Op.equalIn, run_underlying hu]
    · rename_i hu; cases hy; cases h; cases hx <;> simp [Op.equalIn, run_underlying hu]
    · rename_i hu; cases hx; cases h; cases hy <;> simp [Op.equalIn, run_underlying hu]
    · rename_i hu; cases hy; cases h; cases hx; simp [Op.equalIn, run_underlying hu]
    · rename_i hu; cases hx; cases hy; cases h; simp [Op.equalIn, run_underlying hu]
    · rename_i hu; cases hx; cases hy; cases h; simp [Op.equalIn, run_underlying hu]
    · rename_i hu; cases hx; cases hy; cases h; simp [Op.equalIn, run_underlying hu]
    · rename_i fs xs ys hu
      split at h
      · cases h
      · rename_i hs
        cases hx with
        | agg _ xs' s1 h1 =>
          cases hy with
          | agg _ ys' s2 h2 =>
            have hf : P.fieldsOf t = fs := by simp [Program.fieldsOf, hu]
            rw [run_equalIn_struct w d t xs' ys' (by rw [hf]; exact hu) (by simpa using hs), hf]
            exact eqFields_run ih (LR.of_arrays s1 h1) (LR.of_arrays s2 h2) fs.toList b h
    · cases h

theorem eqGuard_run {op : BinOp} {t : TypeId} {x y : Operand} {a b a' b' : Value} (ha : VR φ a a') (hb : VR φ b b') (h : eqGuardA P t a b = true) : (eqGuard op t x y a' b').run P w = .ok () w := by
  have key : (match a', b' with
      | .nilIface, .nilIface => (if (x matches .const _) || (y matches .const _) then pure () else do
          if ← Op.eqGuardIn Op.maxDepth t a' b' then unsupported (.noEntry "binop/eql: two nil values of an interface type with methods, neither of them the literal nil") else pure () : Sem Unit)
      | .agg _, .agg _ => do
        if !(← program).eqGuardType (← program).depth t then pure () else
        if ← Op.eqGuardIn Op.maxDepth t a' b' then unsupported (.noEntry "binop/eql: two nil values of an interface type with methods, in a part of a struct or an array") else pure ()
      | _, _ => pure ()).run P w = .ok () w := by
    split
    · cases ha; cases hb; simp [eqGuardA] at h
    · cases ha; cases hb; simp [eqGuardA] at h; simp [h]
    · rfl
  cases op <;> first | rfl | exact key

theorem eqGuard_int {op : BinOp} {t : TypeId} {x y : Operand} {k k' : IntKind} {a b : Int} : (eqGuard op t x y (.int k a) (.int k' b)).run P w = .ok () w := by
  unfold eqGuard; simp only [Sem.run_ite]; split <;> simp
theorem eqGuard_str {op : BinOp} {t : TypeId} {x y : Operand} {a b : ByteArray} : (eqGuard op t x y (.string a) (.string b)).run P w = .ok () w := by
  unfold eqGuard; simp only [Sem.run_ite]; split <;> simp

theorem intBin_run {op : BinOp} {t : TypeId} {k : IntKind} {a b : Int} {v : Value} (h : intBinA op k a b = some v) : (binOp op t (.int k a) (.int k b)).run P w = .ok v w := by
  cases op <;> simp only [intBinA] at h
  case quo => split at h; cases h; rename_i h0; cases h; simp [binOp, Op.intDiv, h0]
  case rem => split at h; cases h; rename_i h0; cases h; simp [binOp, Op.intDiv, h0]
  case shl => cases h
  case shr => cases h
  all_goals (cases h; simp [binOp, Op.intArith, Op.intBits, Op.intCmp])

theorem shift_run {op : BinOp} {t : TypeId} {k k' : IntKind} {a b : Int} {v : Value} (ho : op = .shl ∨ op = .shr) (h : shiftA op k a b = some v) : (binOp op t (.int k a) (.int k' b)).run P w = .ok v w := by
  unfold shiftA at h
  split at h
  · cases h
  · rename_i hb
    rcases ho with rfl | rfl <;> (cases h; simp [binOp, Op.shift, hb])

theorem strBin_run {op : BinOp} {t : TypeId} {a b : ByteArray} {v : Value} (h : strBinA op a b = some v) : (binOp op t (.string a) (.string b)).run P w = .ok v w := by
  cases op <;> simp only [strBinA] at h
  case add => split at h; cases h; rename_i h0; cases h; simp only [binOp, Op.stringOp, h0, if_false]; rfl
  all_goals first | (cases h; done) | (cases h; simp [binOp, Op.stringOp])

theorem binA_sound {op : BinOp} {t : TypeId} {o1 o2 : Operand} {x y x' y' v : Value} (hx : VR φ x x') (hy : VR φ y y') (h : binA P op t x y = some v) :
    ∃ v', (do eqGuard op t o1 o2 x' y'; binOp op t x' y' : Sem Value).run P w = .ok v' w ∧ VR φ v v' := by
  unfold binA at h
  split at h
  · rename_i k a k' b
    cases hx; cases hy
    simp only [Sem.run_bind, eqGuard_int, Result.andThen_ok]
    split at h
    · refine ⟨v, shift_run (Or.inl rfl) h, ?_⟩
      unfold shiftA at h; split at h
      · cases h
      · cases h; exact .int _ _
    · refine ⟨v, shift_run (Or.inr rfl) h, ?_⟩
      unfold shiftA at h; split at h
      · cases h
      · cases h; exact .int _ _
    · split at h
      · rename_i hk; subst hk
        refine ⟨v, intBin_run h, ?_⟩
        cases op <;> simp only [intBinA] at h
        case quo => split at h; cases h; cases h; exact .int _ _
        case rem => split at h; cases h; cases h; exact .int _ _
        case shl => cases h
        case shr => cases h
        all_goals (cases h; first | exact .int _ _ | exact .bool _)
      · cases h
  · cases hx; cases hy
    simp only [Sem.run_bind, eqGuard_str, Result.andThen_ok]
    refine ⟨v, strBin_run h, ?_⟩
    cases op <;> simp only [strBinA] at h
    case add => split at h; cases h; cases h; exact .string _
    all_goals first | (cases h; done) | (cases h; exact .bool _)
  · rename_i hni hns
    have key : ∀ b, eqGuardA P t x y = true → eqA P 10000 t x y = some b → (eqGuard op t o1 o2 x' y').run P w = .ok () w ∧ (Op.equal t x' y').run P w = .ok b w := fun b hg he =>
      ⟨eqGuard_run hx hy hg, eqA_run 10000 t x y x' y' b hx hy he⟩
    split at h
    · split at h
      · rename_i hg
        cases he : eqA P 10000 t x y with
        | none => rw [he] at h; cases h
        | some b =>
          rw [he] at h; cases h
          obtain ⟨k1, k2⟩ := key b hg he
          refine ⟨.bool b, ?_, .bool b⟩
          simp only [Sem.run_bind, k1, Result.andThen_ok]
          clear k1 he key
          cases hx <;> cases hy <;> first
            | (simp only [binOp, Sem.run_bind, k2, Result.andThen_ok, Sem.run_pure]; done) | (simp [eqGuardA] at hg; done) | (exact (hni _ _ _ _ rfl rfl).elim) | (exact (hns _ _ rfl rfl).elim)
      · cases h
    · split at h
      · rename_i hg
        cases he : eqA P 10000 t x y with
        | none => rw [he] at h; cases h
        | some b =>
          rw [he] at h; cases h
          obtain ⟨k1, k2⟩ := key b hg he
          refine ⟨.bool !b, ?_, .bool _⟩
          simp only [Sem.run_bind, k1, Result.andThen_ok]
          clear k1 he key
          cases hx <;> cases hy <;> first
            | (simp only [binOp, Sem.run_bind, k2, Result.andThen_ok, Sem.run_pure]; done) | (simp [eqGuardA] at hg; done) | (exact (hni _ _ _ _ rfl rfl).elim) | (exact (hns _ _ rfl rfl).elim)
      · cases h
    · cases h

theorem unA_sound {op : UnOp} {x x' v : Value} (hx : VR φ x x') (h : unA op x = some v) : ∃ v', (Op.unary op x').run P w = .ok v' w ∧ VR φ v v' := by
  unfold unA at h
  split at h
  · cases hx; cases h; exact ⟨_, by simp [Op.unary, Op.intArith], .int _ _⟩
  · cases hx; cases h; exact ⟨_, by simp [Op.unary, Op.intBits], .int _ _⟩
  · cases hx; cases h; exact ⟨_, by simp [Op.unary], .bool _⟩
  · cases h

theorem convA_sound {a b : TypeId} {x x' v : Value} (hx : VR φ x x') (h : convA P a b x = some v) : ∃ v', (convert a b x').run P w = .ok v' w ∧ VR φ v v' := by
  unfold convA at h
  split at h
  · rename_i h1 h2; cases hx; cases h; exact ⟨_, by simp [convert, run_underlying h1, run_underlying h2, Conv.intToInt], .int _ _⟩
  · rename_i h1 h2; cases hx; cases h; exact ⟨_, by simp [convert, run_underlying h1, run_underlying h2], .string _⟩
  · cases h

end Go.Ev
