import Derived.Test.YthedojfbofcefaaDoorEvMem
import Derived.Laws.StructEq
/- The operations, one by one: what the clean state's answer is in the model's world. First those that make no block and write none. -/
namespace Go.Ev
open Go
variable {P : Program} {φ : Inj} {lk : Nat} {s : HS} {w : World}

/-! ### Types -/
theorem tyA_run {t : TypeId} {n : Nat} {g : Bool} (h : tyA P t = some (n, g)) (w : World) : (sizeOf t).run P w = .ok n w ∧ (isAgg t).run P w = .ok g w := by
  unfold tyA at h
  split at h
  · rename_i i fs h1 h2; cases h; simp [sizeOf, typeInfo, h1, isAgg, run_underlying h2]
  · rename_i i a b h1 h2; cases h; simp [sizeOf, typeInfo, h1, isAgg, run_underlying h2]
  · rename_i i d hs ha h1 h2
    cases h
    refine ⟨by simp [sizeOf, typeInfo, h1], ?_⟩
    cases d with
    | struct fs => exact (hs fs rfl).elim
    | array a b => exact (ha a b rfl).elim
    | _ => simp [isAgg, run_underlying h2]
  · cases h
theorem szA_run {t : TypeId} {n : Nat} (h : szA P t = some n) (w : World) : (sizeOf t).run P w = .ok n w := by
  unfold szA at h
  cases hi : P.info? t with
  | none => rw [hi] at h; cases h
  | some i => rw [hi] at h; cases h; simp [sizeOf, typeInfo, hi]
theorem bytesA_run {t : TypeId} {n : Nat} (h : bytesA P t = some n) (w : World) : ∃ i : TypeInfo, (typeInfo t).run P w = .ok i w ∧ i.bytes = n := by
  unfold bytesA at h
  cases hi : P.info? t with
  | none => rw [hi] at h; cases h
  | some i => rw [hi] at h; cases h; exact ⟨i, by simp [typeInfo, hi], rfl⟩
theorem zeroA_run {t : TypeId} {z : Value} (h : zeroA P t = some z) (w : World) : (zeroValue t).run P w = .ok z w ∧ plainN 4 z = true := by
  unfold zeroA at h
  cases hi : P.info? t with
  | none => rw [hi] at h; cases h
  | some i =>
    rw [hi] at h
    simp only [Option.bind_some] at h
    cases hz : i.zero with
    | none => rw [hz] at h; cases h
    | some v =>
      rw [hz] at h
      simp only [Option.bind_some] at h
      cases hp : plainN 4 v with
      | false => rw [hp] at h; cases h
      | true => rw [hp] at h; cases h; exact ⟨by simp [zeroValue, typeInfo, hi, hz], hp⟩
theorem elemA_und {t e : TypeId} (h : elemA P t = some e) : P.underlying t = some (.slice e) := by
  unfold elemA at h; split at h
  · cases h; assumption
  · cases h
theorem mapA_und {t k e : TypeId} (h : mapA P t = some (k, e)) : P.underlying t = some (.map k e) := by
  unfold mapA at h; split at h
  · cases h; assumption
  · cases h

/-! ### Aggregates and their parts -/
theorem packA_rel {g : Bool} {vs vs' : List Value} {v : Value} (hr : LR φ vs vs') (h : packA g vs = some v) : ∃ v', packA g vs' = some v' ∧ VR φ v v' := by
  unfold packA at h ⊢
  cases g with
  | true => simp only [if_true] at h ⊢; cases h; exact ⟨_, rfl, VR.agg' hr⟩
  | false =>
    simp only [Bool.false_eq_true, if_false] at h ⊢
    match vs, h with
    | [x], h =>
      cases h
      obtain ⟨y, ys, rfl, h1, h2⟩ := hr.cons_inv
      have := h2.nil_inv; subst this
      exact ⟨y, rfl, h1⟩

theorem LR.cut {cs ds : List Value} (h : LR φ cs ds) {off n : Nat} {vs : List Value} (e : cutL cs off n = some vs) : ∃ vs', cutL ds off n = some vs' ∧ LR φ vs vs' := by
  obtain ⟨h1, rfl⟩ := cutL_inv e
  refine ⟨(ds.drop off).take n, ?_, (h.drop off).take n⟩
  unfold cutL; rw [if_pos (by rw [← h.1]; exact h1)]

theorem partA_rel {t : TypeId} {cs ds : List Value} {off : Nat} {v : Value} (hr : LR φ cs ds) (h : partA P t cs off = some v) : ∃ v', partA P t ds off = some v' ∧ VR φ v v' := by
  unfold partA at h ⊢
  cases ht : tyA P t with
  | none => rw [ht] at h; cases h
  | some x =>
    obtain ⟨n, g⟩ := x
    rw [ht] at h
    simp only [Option.bind_some] at h ⊢
    cases hc : cutL cs off n with
    | none => rw [hc] at h; cases h
    | some vs =>
      rw [hc] at h
      obtain ⟨vs', h1, h2⟩ := hr.cut hc
      rw [h1]; exact packA_rel h2 h

theorem partA_run {t : TypeId} {ds : Array Value} {off : Nat} {v : Value} (h : partA P t ds.toList off = some v) (w : World) : (part t ds off).run P w = .ok v w := by
  unfold partA at h
  cases ht : tyA P t with
  | none => rw [ht] at h; cases h
  | some x =>
    obtain ⟨n, g⟩ := x
    rw [ht] at h
    simp only [Option.bind_some] at h
    obtain ⟨h1, h2⟩ := tyA_run ht w
    cases hc : cutL ds.toList off n with
    | none => rw [hc] at h; cases h
    | some vs =>
      rw [hc] at h
      simp only [Option.bind_some] at h
      obtain ⟨hl, rfl⟩ := cutL_inv hc
      cases g with
      | true =>
        simp only [packA, if_true, Option.some.injEq] at h
        subst h
        simp only [part, Sem.run_bind, h2, Result.andThen_ok, if_true, h1, Sem.run_pure]
        congr 2
        apply Array.ext'
        simp [List.extract_eq_take_drop]
      | false =>
        simp only [packA, Bool.false_eq_true, if_false] at h
        split at h
        · rename_i x hx
          cases h
          have : ds.toList[off]? = some v := by
            have hn : 0 < n := by
              rcases Nat.eq_zero_or_pos n with h0 | h0
              · subst h0; simp at hx
              · exact h0
            have := getElem?_drop_take (l := ds.toList) (a := off) hn
            rw [hx] at this; simpa using this.symm
          simp only [part, Sem.run_bind, h2, Result.andThen_ok, Bool.false_eq_true, if_false]
          rw [Array.getElem?_toList] at this
          simp [this]
        · cases h

/-! ### Loads -/
theorem loadV_sound (H : HR P φ s w) {t : TypeId} {a a' v : Value} (ha : VR φ a a') (h : loadV P s.hp t a = some v) : ∃ v', (Instr.loadAt t a').run P w = .ok v' w ∧ VR φ v v' := by
  unfold loadV at h
  split at h
  · rename_i ad
    cases ht : tyA P t with
    | none => rw [ht] at h; cases h
    | some x =>
      obtain ⟨n, g⟩ := x
      rw [ht] at h
      simp only [Option.bind_some] at h
      obtain ⟨h1, h2⟩ := tyA_run ht w
      cases hrd : readA s.hp ad n with
      | none => rw [hrd] at h; cases h
      | some vs =>
        rw [hrd] at h
        simp only [Option.bind_some] at h
        cases ha with
        | ptr id off im hφ =>
          obtain ⟨vs', hl, hn, hc⟩ := readA_sound H hrd hφ
          obtain ⟨v', hp, hv⟩ := packA_rel hl h
          refine ⟨v', ?_, hv⟩
          have hld := run_load_row P w im.blk (im.sh + off) vs' hc
          rw [hn] at hld
          cases g with
          | true =>
            simp only [packA, if_true, Option.some.injEq] at hp
            subst hp
            simp [Instr.loadAt, Instr.sureAddr, loadVar, h1, h2, hld]
          | false =>
            simp only [packA, Bool.false_eq_true, if_false] at hp
            split at hp
            · rename_i x
              cases hp
              have := hc 0 v' rfl
              simp only [Nat.add_zero] at this
              simp [Instr.loadAt, Instr.sureAddr, loadVar, h2, this]
            · cases hp
  · cases h

/-! ### Operators -/
theorem eqFields_run {d : Nat} (hd : ∀ (t : TypeId) (x y x' y' : Value) (b : Bool), VR φ x x' → VR φ y y' → eqA P d t x y = some b → (Op.equalIn d t x' y').run P w = .ok b w)
    {xs ys xs' ys' : Array Value} (hx : LR φ xs.toList xs'.toList) (hy : LR φ ys.toList ys'.toList) : ∀ (fs : List Field) (b : Bool),
    eqFields P (eqA P d) xs.toList ys.toList fs = some b → (Op.eqFields d xs' ys' fs).run P w = .ok b w := by
  intro fs
  induction fs with
  | nil => intro b h; simp only [eqFields, Option.some.injEq] at h; subst h; simp [Op.eqFields]
  | cons f fs ih =>
    intro b h
    simp only [eqFields] at h
    by_cases hn : f.name = "_"
    · rw [if_pos hn] at h
      simp only [Op.eqFields, hn, ne_eq, not_true_eq_false, if_false]
      exact ih b h
    · rw [if_neg hn] at h
      cases ha : partA P f.type xs.toList f.offset with
      | none => rw [ha] at h; cases h
      | some a =>
        rw [ha] at h; simp only [Option.bind_some] at h
        cases hb : partA P f.type ys.toList f.offset with
        | none => rw [hb] at h; cases h
        | some c =>
          rw [hb] at h; simp only [Option.bind_some] at h
          obtain ⟨a', ha1, ha2⟩ := partA_rel hx ha
          obtain ⟨c', hb1, hb2⟩ := partA_rel hy hb
          cases he : eqA P d f.type a c with
          | none => rw [he] at h; cases h
          | some r =>
            rw [he] at h; simp only [Option.bind_some] at h
            have hr := hd _ _ _ _ _ _ ha2 hb2 he
            simp only [Op.eqFields, ne_eq, hn, not_false_eq_true, if_true, Sem.run_bind, partA_run ha1 w, partA_run hb1 w, hr, Result.andThen_ok, Sem.run_ite]
            cases r with
            | true => simp only [if_true] at h; simp only [Bool.not_true, Bool.false_eq_true, if_false]; exact ih b h
            | false => simp only [Bool.false_eq_true, if_false, Option.some.injEq] at h; subst h; simp

theorem eqA_run : ∀ (d : Nat) (t : TypeId) (x y x' y' : Value) (b : Bool), VR φ x x' → VR φ y y' → eqA P d t x y = some b → (Op.equalIn d t x' y').run P w = .ok b w := by
  intro d
  induction d with
  | zero => intro t x y x' y' b _ _ h; simp [eqA] at h
  | succ d ih =>
    intro t x y x' y' b hx hy h
    unfold eqA at h
    split at h
    · rename_i hu; cases hx; cases hy; cases h; simp [Op.equalIn, run_underlying hu]
    · rename_i hu
      cases hx; cases hy
      split at h
      · rename_i hk; cases h; simp [Op.equalIn, run_underlying hu, hk]
      · cases h
    · rename_i hu; cases hx; cases hy; cases h; simp [Op.equalIn, run_underlying hu]
    · rename_i hu; cases hx; cases h; cases hy <;> simp [Op.equalIn, run_underlying hu]
    · rename_i hu; cases hx; cases hy; cases h; simp [Op.equalIn, run_underlying hu]
    · rename_i hu; cases hx; cases h; cases hy <;> simp [Op.equalIn, run_underlying hu]
    · rename_i hu; cases hy; cases h; cases hx <;> simp [Op.equalIn, run_underlying hu]
    · rename_i hu; cases hx; cases h; cases hy <;> simp [Op.equalIn, run_underlying hu]
    · rename_i hu; cases hy; cases h; cases hx; simp [Op.equalIn, run_underlying hu]
    · rename_i hu; cases hx; cases hy; cases h; simp [Op.equalIn, run_underlying hu]
    · rename_i hu; cases hx; cases hy; cases h; simp [Op.equalIn, run_underlying hu]
    · rename_i hu; cases hx; cases hy; cases h; simp [Op.equalIn, run_underlying hu]
    · rename_i fs xs ys hu
      split at h
      · cases h
      · rename_i hs
        cases hx with
        | agg _ xs' s1 h1 =>
          cases hy with
          | agg _ ys' s2 h2 =>
            have hf : P.fieldsOf t = fs := by simp [Program.fieldsOf, hu]
            rw [run_equalIn_struct w d t xs' ys' (by rw [hf]; exact hu) (by simpa using hs), hf]
            exact eqFields_run ih (LR.of_arrays s1 h1) (LR.of_arrays s2 h2) fs.toList b h
    · cases h

theorem eqGuard_run {op : BinOp} {t : TypeId} {x y : Operand} {a b a' b' : Value} (ha : VR φ a a') (hb : VR φ b b') (h : eqGuardA P t a b = true) : (eqGuard op t x y a' b').run P w = .ok () w := by
  have key : (match a', b' with
      | .nilIface, .nilIface => (if (x matches .const _) || (y matches .const _) then pure () else do
          if ← Op.eqGuardIn Op.maxDepth t a' b' then unsupported (.noEntry "binop/eql: two nil values of an interface type with methods, neither of them the literal nil") else pure () : Sem Unit)
      | .agg _, .agg _ => do
        if !(← program).eqGuardType (← program).depth t then pure () else
        if ← Op.eqGuardIn Op.maxDepth t a' b' then unsupported (.noEntry "binop/eql: two nil values of an interface type with methods, in a part of a struct or an array") else pure ()
      | _, _ => pure ()).run P w = .ok () w := by
    split
    · cases ha; cases hb; simp [eqGuardA] at h
    · cases ha; cases hb; simp [eqGuardA] at h; simp [h]
    · rfl
  cases op <;> first | rfl | exact key

theorem eqGuard_int {op : BinOp} {t : TypeId} {x y : Operand} {k k' : IntKind} {a b : Int} : (eqGuard op t x y (.int k a) (.int k' b)).run P w = .ok () w := by
  unfold eqGuard; simp only [Sem.run_ite]; split <;> simp
theorem eqGuard_str {op : BinOp} {t : TypeId} {x y : Operand} {a b : ByteArray} : (eqGuard op t x y (.string a) (.string b)).run P w = .ok () w := by
  unfold eqGuard; simp only [Sem.run_ite]; split <;> simp

theorem intBin_run {op : BinOp} {t : TypeId} {k : IntKind} {a b : Int} {v : Value} (h : intBinA op k a b = some v) : (binOp op t (.int k a) (.int k b)).run P w = .ok v w := by
  cases op <;> simp only [intBinA] at h
  case quo => split at h; cases h; rename_i h0; cases h; simp [binOp, Op.intDiv, h0]
  case rem => split at h; cases h; rename_i h0; cases h; simp [binOp, Op.intDiv, h0]
  case shl => cases h
  case shr => cases h
  all_goals (cases h; simp [binOp, Op.intArith, Op.intBits, Op.intCmp])

theorem shift_run {op : BinOp} {t : TypeId} {k k' : IntKind} {a b : Int} {v : Value} (ho : op = .shl ∨ op = .shr) (h : shiftA op k a b = some v) : (binOp op t (.int k a) (.int k' b)).run P w = .ok v w := by
  unfold shiftA at h
  split at h
  · cases h
  · rename_i hb
    rcases ho with rfl | rfl <;> (cases h; simp [binOp, Op.shift, hb])

theorem strBin_run {op : BinOp} {t : TypeId} {a b : ByteArray} {v : Value} (h : strBinA op a b = some v) : (binOp op t (.string a) (.string b)).run P w = .ok v w := by
  cases op <;> simp only [strBinA] at h
  case add => split at h; cases h; rename_i h0; cases h; simp only [binOp, Op.stringOp, h0, if_false]; rfl
  all_goals first | (cases h; done) | (cases h; simp [binOp, Op.stringOp])

theorem binA_sound {op : BinOp} {t : TypeId} {o1 o2 : Operand} {x y x' y' v : Value} (hx : VR φ x x') (hy : VR φ y y') (h : binA P op t x y = some v) :
    ∃ v', (do eqGuard op t o1 o2 x' y'; binOp op t x' y' : Sem Value).run P w = .ok v' w ∧ VR φ v v' := by
  unfold binA at h
  split at h
  · rename_i k a k' b
    cases hx; cases hy
    simp only [Sem.run_bind, eqGuard_int, Result.andThen_ok]
    split at h
    · refine ⟨v, shift_run (Or.inl rfl) h, ?_⟩
      unfold shiftA at h; split at h
      · cases h
      · cases h; exact .int _ _
    · refine ⟨v, shift_run (Or.inr rfl) h, ?_⟩
      unfold shiftA at h; split at h
      · cases h
      · cases h; exact .int _ _
    · split at h
      · rename_i hk; subst hk
        refine ⟨v, intBin_run h, ?_⟩
        cases op <;> simp only [intBinA] at h
        case quo => split at h; cases h; cases h; exact .int _ _
        case rem => split at h; cases h; cases h; exact .int _ _
        case shl => cases h
        case shr => cases h
        all_goals (cases h; first | exact .int _ _ | exact .bool _)
      · cases h
  · cases hx; cases hy
    simp only [Sem.run_bind, eqGuard_str, Result.andThen_ok]
    refine ⟨v, strBin_run h, ?_⟩
    cases op <;> simp only [strBinA] at h
    case add => split at h; cases h; cases h; exact .string _
    all_goals first | (cases h; done) | (cases h; exact .bool _)
  · rename_i hni hns
    have key : ∀ b, eqGuardA P t x y = true → eqA P 10000 t x y = some b → (eqGuard op t o1 o2 x' y').run P w = .ok () w ∧ (Op.equal t x' y').run P w = .ok b w := fun b hg he =>
      ⟨eqGuard_run hx hy hg, eqA_run 10000 t x y x' y' b hx hy he⟩
    split at h
    · split at h
      · rename_i hg
        cases he : eqA P 10000 t x y with
        | none => rw [he] at h; cases h
        | some b =>
          rw [he] at h; cases h
          obtain ⟨k1, k2⟩ := key b hg he
          refine ⟨.bool b, ?_, .bool b⟩
          simp only [Sem.run_bind, k1, Result.andThen_ok]
          clear k1 he key
          cases hx <;> cases hy <;> first
            | (simp only [binOp, Sem.run_bind, k2, Result.andThen_ok, Sem.run_pure]; done) | (simp [eqGuardA] at hg; done) | (exact (hni _ _ _ _ rfl rfl).elim) | (exact (hns _ _ rfl rfl).elim)
      · cases h
    · split at h
      · rename_i hg
        cases he : eqA P 10000 t x y with
        | none => rw [he] at h; cases h
        | some b =>
          rw [he] at h; cases h
          obtain ⟨k1, k2⟩ := key b hg he
          refine ⟨.bool !b, ?_, .bool _⟩
          simp only [Sem.run_bind, k1, Result.andThen_ok]
          clear k1 he key
          cases hx <;> cases hy <;> first
            | (simp only [binOp, Sem.run_bind, k2, Result.andThen_ok, Sem.run_pure]; done) | (simp [eqGuardA] at hg; done) | (exact (hni _ _ _ _ rfl rfl).elim) | (exact (hns _ _ rfl rfl).elim)
      · cases h
    · cases h

theorem unA_sound {op : UnOp} {x x' v : Value} (hx : VR φ x x') (h : unA op x = some v) : ∃ v', (Op.unary op x').run P w = .ok v' w ∧ VR φ v v' := by
  unfold unA at h
  split at h
  · cases hx; cases h; exact ⟨_, by simp [Op.unary, Op.intArith], .int _ _⟩
  · cases hx; cases h; exact ⟨_, by simp [Op.unary, Op.intBits], .int _ _⟩
  · cases hx; cases h; exact ⟨_, by simp [Op.unary], .bool _⟩
  · cases h

theorem convA_sound {a b : TypeId} {x x' v : Value} (hx : VR φ x x') (h : convA P a b x = some v) : ∃ v', (convert a b x').run P w = .ok v' w ∧ VR φ v v' := by
  unfold convA at h
  split at h
  · rename_i h1 h2; cases hx; cases h; exact ⟨_, by simp [convert, run_underlying h1, run_underlying h2, Conv.intToInt], .int _ _⟩
  · rename_i h1 h2; cases hx; cases h; exact ⟨_, by simp [convert, run_underlying h1, run_underlying h2], .string _⟩
  · cases h

end Go.Ev

/- The operations, one by one: addresses, slices, what makes blocks and what writes them. -/
namespace Go.Ev
open Go
variable {P : Program} {φ : Inj} {lk : Nat} {s : HS} {w : World}

theorem fieldA_inv {t : TypeId} {f off n : Nat} {ft : TypeId} (h : fieldA P t f = some (off, n, ft)) :
    ∃ fs x, P.underlying t = some (.struct fs) ∧ fs[f]? = some x ∧ x.offset = off ∧ x.type = ft ∧ szA P ft = some n := by
  unfold fieldA at h
  split at h
  · rename_i fs hu
    cases hx : fs[f]? with
    | none => rw [hx] at h; cases h
    | some x =>
      rw [hx] at h; simp only [Option.bind_some] at h
      cases hz : szA P x.type with
      | none => rw [hz] at h; cases h
      | some m => rw [hz] at h; cases h; exact ⟨fs, x, hu, hx, rfl, rfl, hz⟩
  · cases h

theorem fieldAddrA_sound {t : TypeId} {f : Nat} {x x' v : Value} (hx : VR φ x x') (h : fieldAddrA P t x f = some v) : ∃ v', (Instr.fieldAt t x' f).run P w = .ok v' w ∧ VR φ v v' := by
  unfold fieldAddrA at h
  split at h
  · rename_i a
    cases hf : fieldA P t f with
    | none => rw [hf] at h; cases h
    | some y =>
      obtain ⟨off, n, ft⟩ := y
      rw [hf] at h; simp only [Option.bind_some] at h
      split at h
      · cases h
      · rename_i hn
        cases h
        obtain ⟨fs, y, hu, hy, rfl, rfl, hz⟩ := fieldA_inv hf
        cases hx with
        | ptr id o im e =>
          refine ⟨.pointer (some ⟨im.blk, im.sh + o + y.offset, none⟩), ?_, ?_⟩
          · simp [Instr.fieldAt, run_underlying hu, hy, Instr.sureAddr, fieldPlace, szA_run hz, hn, addr_add]
          · rw [Nat.add_assoc]; exact .ptr id (o + y.offset) im e
  · cases h

theorem fieldValA_sound {t : TypeId} {f : Nat} {x x' v : Value} (hx : VR φ x x') (h : fieldValA P t x f = some v) : ∃ v', (Instr.field t x' f).run P w = .ok v' w ∧ VR φ v v' := by
  unfold fieldValA at h
  split at h
  · rename_i cs
    cases hf : fieldA P t f with
    | none => rw [hf] at h; cases h
    | some y =>
      obtain ⟨off, n, ft⟩ := y
      rw [hf] at h; simp only [Option.bind_some] at h
      obtain ⟨fs, y, hu, hy, rfl, rfl, hz⟩ := fieldA_inv hf
      cases hx with
      | agg _ ds s1 h1 =>
        obtain ⟨v', hv, hr⟩ := partA_rel (LR.of_arrays s1 h1) h
        refine ⟨v', ?_, hr⟩
        simp [Instr.field, run_underlying hu, hy, asAgg, partA_run hv]
  · cases h

theorem indexAddrA_sound {t : TypeId} {x x' i i' v : Value} (hx : VR φ x x') (hi : VR φ i i') (h : indexAddrA P t x i = some v) : ∃ v', (Instr.indexAt t x' i').run P w = .ok v' w ∧ VR φ v v' := by
  unfold indexAddrA at h
  split at h
  · rename_i k i
    cases hi
    split at h
    · rename_i e a len cap hu
      cases hz : szA P e with
      | none => rw [hz] at h; cases h
      | some n =>
        rw [hz] at h; simp only [Option.bind_some] at h
        split at h
        · rename_i hb
          cases h
          cases hx with
          | slice id off _ _ im hφ hc =>
            refine ⟨.pointer (some ⟨im.blk, im.sh + off + i.toNat * n, none⟩), ?_, ?_⟩
            · simp [Instr.indexAt, run_underlying hu, asIntOf, hb, szA_run hz, addr_add]
            · rw [Nat.add_assoc]; exact .ptr id _ im hφ
          | sliceU id off _ _ cap' im hφ hc h1 h2 h3 =>
            refine ⟨.pointer (some ⟨im.blk, im.sh + off + i.toNat * n, none⟩), ?_, ?_⟩
            · simp [Instr.indexAt, run_underlying hu, asIntOf, hb, szA_run hz, addr_add]
            · rw [Nat.add_assoc]; exact .ptr id _ im hφ
          | sliceE id off o' im hφ => omega
        · cases h
    · rename_i len e a hu
      cases hz : szA P e with
      | none => rw [hz] at h; cases h
      | some n =>
        rw [hz] at h; simp only [Option.bind_some] at h
        split at h
        · rename_i hb
          cases h
          cases hx with
          | ptr id off im hφ =>
            refine ⟨.pointer (some ⟨im.blk, im.sh + off + i.toNat * n, none⟩), ?_, ?_⟩
            · simp [Instr.indexAt, run_underlying hu, asIntOf, Instr.sureAddr, hb, szA_run hz, addr_add]
            · rw [Nat.add_assoc]; exact .ptr id _ im hφ
        · cases h
    · cases h
  · cases h

theorem indexA_sound {t : TypeId} {x x' i i' v : Value} (hx : VR φ x x') (hi : VR φ i i') (h : indexA P t x i = some v) : ∃ v', (Instr.index t x' i').run P w = .ok v' w ∧ VR φ v v' := by
  unfold indexA at h
  split at h
  · rename_i k i
    cases hi
    split at h
    · rename_i len e cs hu
      cases hz : szA P e with
      | none => rw [hz] at h; cases h
      | some n =>
        rw [hz] at h; simp only [Option.bind_some] at h
        split at h
        · rename_i hb
          cases hx with
          | agg _ ds s1 h1 =>
            obtain ⟨v', hv, hr⟩ := partA_rel (LR.of_arrays s1 h1) h
            refine ⟨v', ?_, hr⟩
            simp [Instr.index, run_underlying hu, asIntOf, hb, szA_run hz, partA_run hv]
        · cases h
    · rename_i st hu
      cases hx
      split at h
      · rename_i hb
        cases hs : st.data.toList[i.toNat]? with
        | none => rw [hs] at h; cases h
        | some b =>
          rw [hs] at h; cases h
          refine ⟨_, ?_, .int _ _⟩
          have : st[i.toNat]? = some b := by
            rw [Array.getElem?_toList] at hs
            obtain ⟨h1, h2⟩ := Array.getElem?_eq_some_iff.1 hs
            have h1' : i.toNat < st.size := h1
            rw [getElem?_pos st i.toNat h1']
            exact congrArg some h2
          simp [Instr.index, run_underlying hu, asIntOf, hb, this]
      · cases h
    · cases h
  · cases h

theorem natA_inv {v v' : Value} {n : Nat} (hr : VR φ v v') (h : natA v = some n) : ∃ k i, v' = .int k i ∧ 0 ≤ i ∧ i.toNat = n := by
  unfold natA at h
  split at h
  · rename_i k i
    split at h
    · rename_i hi; cases h; cases hr; exact ⟨k, i, rfl, hi, rfl⟩
    · cases h
  · cases h

theorem sliceBound_run {k : IntKind} {i : Int} {y : Nat} {c : BoundsCode} (h0 : 0 ≤ i) (h : i.toNat ≤ y) : (Instr.sliceBound (.int k i) y c).run P w = .ok i.toNat w := by
  have : 0 ≤ i ∧ i ≤ (y : Int) := ⟨h0, by omega⟩
  simp [Instr.sliceBound, asIntOf, this]

/-- Two optional operands that go together. -/
def OVR (φ : Inj) : Option Value → Option Value → Prop
  | none, none => True
  | some v, some v' => VR φ v v'
  | _, _ => False

theorem onatA_inv {v v' : Option Value} {n : Option Nat} (hr : OVR φ v v') (h : onatA v = some n) : (v' = none ∧ n = none) ∨ ∃ k i, v' = some (.int k i) ∧ 0 ≤ i ∧ n = some i.toNat := by
  cases v with
  | none => cases v' with
    | none => simp only [onatA, Option.some.injEq] at h; exact Or.inl ⟨rfl, h.symm⟩
    | some x => exact hr.elim
  | some x => cases v' with
    | none => exact hr.elim
    | some y =>
      simp only [onatA] at h
      cases hn : natA x with
      | none => rw [hn] at h; cases h
      | some m =>
        rw [hn] at h; cases h
        obtain ⟨k, i, h1, h2, h3⟩ := natA_inv hr hn
        exact Or.inr ⟨k, i, by rw [h1], h2, by rw [h3]⟩

theorem sliceBounds_run {isS : Bool} {len cap : Nat} {lo hi mx lo' hi' mx' : Option Value} {l h m : Option Nat} (rl : OVR φ lo lo') (rh : OVR φ hi hi') (rm : OVR φ mx mx')
    (hl : onatA lo = some l) (hh : onatA hi = some h) (hm : onatA mx = some m) (h1 : l.getD 0 ≤ h.getD len) (h2 : h.isSome = true → h.getD len ≤ m.getD cap) (h3 : m.getD cap ≤ cap)
    (h4 : m.isSome = true → h.isSome = true) : (Instr.sliceBounds isS len cap lo' hi' mx').run P w = .ok (l.getD 0, h.getD len, m.getD cap) w := by
  rcases onatA_inv rm hm with ⟨rfl, rfl⟩ | ⟨k3, i3, rfl, h03, rfl⟩ <;> rcases onatA_inv rh hh with ⟨rfl, rfl⟩ | ⟨k2, i2, rfl, h02, rfl⟩ <;>
    rcases onatA_inv rl hl with ⟨rfl, rfl⟩ | ⟨k1, i1, rfl, h01, rfl⟩ <;>
    simp only [Option.getD_none, Option.getD_some, Option.isSome_some, Option.isSome_none, forall_const, Bool.false_eq_true, false_implies, implies_true] at h1 h2 h3 h4 <;>
    (try (exact h4.elim)) <;>
    (unfold Instr.sliceBounds
     simp only [Sem.run_bind, Sem.run_pure, Result.andThen_ok, Option.getD_none, Option.getD_some]
     (try rw [sliceBound_run h03 h3])
     (try simp only [Result.andThen_ok])
     (try rw [sliceBound_run h02 h2])
     (try simp only [Result.andThen_ok])
     (try rw [sliceBound_run h01 h1])
     (try simp only [Result.andThen_ok]))

end Go.Ev

/- The operations, one by one: slicing, what is built. -/
namespace Go.Ev
open Go
variable {P : Program} {φ : Inj} {lk : Nat} {s : HS} {w : World}

theorem sliceAt_slice {t e : TypeId} {n : Nat} {a : Option Addr} {len cap : Nat} {lo hi mx : Option Value} {l h m : Nat} (hu : P.underlying t = some (.slice e)) (hz : szA P e = some n)
    (hb : (Instr.sliceBounds true len cap lo hi mx).run P w = .ok (l, h, m) w) :
    (Instr.sliceAt t (.slice a len cap) lo hi mx).run P w = .ok (.slice (if m = l then a else a.map (·.add (l * n))) (h - l) (m - l)) w := by
  simp [Instr.sliceAt, run_underlying hu, Instr.slice, hb, szA_run hz]

theorem sliceA_sound (H : HR P φ s w) {t : TypeId} {x x' v : Value} {lo hi mx lo' hi' mx' : Option Value} (hx : VR φ x x') (rl : OVR φ lo lo') (rh : OVR φ hi hi') (rm : OVR φ mx mx')
    (hv : sliceA P s.hp t x lo hi mx = some v) : ∃ v', (Instr.sliceAt t x' lo' hi' mx').run P w = .ok v' w ∧ VR φ v v' := by
  unfold sliceA at hv
  cases hl : onatA lo with
  | none => rw [hl] at hv; cases hv
  | some l =>
  rw [hl] at hv; simp only [Option.bind_some] at hv
  cases hh : onatA hi with
  | none => rw [hh] at hv; cases hv
  | some h =>
  rw [hh] at hv; simp only [Option.bind_some] at hv
  cases hm : onatA mx with
  | none => rw [hm] at hv; cases hv
  | some m =>
  rw [hm] at hv; simp only [Option.bind_some] at hv
  split at hv
  · -- a string
    rename_i st hu
    cases hx
    split at hv
    · rename_i hc
      obtain ⟨rfl, h1, h2⟩ := hc
      cases hv
      have hmx : mx' = none := by
        rcases onatA_inv rm hm with ⟨h, _⟩ | ⟨_, _, _, _, h⟩
        · exact h
        · cases h
      subst hmx
      have hb := sliceBounds_run (P := P) (w := w) (isS := false) (len := st.size) (cap := st.size) rl rh (show OVR φ mx none from rm) hl hh hm h1 (fun _ => h2) (Nat.le_refl _) (by simp)
      refine ⟨_, ?_, .string _⟩
      simp [Instr.sliceAt, run_underlying hu, Instr.slice, hb]
    · cases hv
  · -- a slice
    rename_i e a len cap hu
    cases hz : szA P e with
    | none => rw [hz] at hv; cases hv
    | some n =>
    rw [hz] at hv; simp only [Option.bind_some] at hv
    split at hv
    · -- with a third index
      rename_i m
      split at hv
      · rename_i hc
        obtain ⟨h1, h2, h4, hmu, h3⟩ := hc
        cases hv
        have hmc : ∀ c, m ≤ c → (Instr.sliceBounds true len c lo' hi' mx').run P w = .ok (l.getD 0, h.getD len, m) w := fun c hc =>
          sliceBounds_run (P := P) (w := w) (isS := true) (len := len) (cap := c) rl rh rm hl hh hm h1 (fun _ => h2) hc (fun _ => h4)
        cases hx with
        | nilslice =>
          rcases h3 with ⟨hc, h3⟩ | ⟨hc, h3, h5⟩
          · refine ⟨_, sliceAt_slice hu hz (hmc cap h3), ?_⟩
            simp only [Option.map_none, ite_self]; exact .nilslice _ _
          · refine ⟨_, sliceAt_slice hu hz (hmc cap (by omega)), ?_⟩
            simp only [Option.map_none, ite_self]; exact .nilslice _ _
        | slice id off _ _ im hφ hc =>
          refine ⟨_, sliceAt_slice hu hz (hmc cap (by omega)), ?_⟩
          simp only [Option.map_some, addr_add]
          split
          · exact .slice id off _ _ im hφ (by omega)
          · rw [Nat.add_assoc]; exact .slice id _ _ _ im hφ (by omega)
        | sliceU id off _ _ cap' im hφ hc k1 k2 k3 =>
          refine ⟨_, sliceAt_slice hu hz (hmc cap' (by omega)), ?_⟩
          simp only [Option.map_some, addr_add]
          split
          · exact .slice id off _ _ im hφ (by omega)
          · rw [Nat.add_assoc]; exact .slice id _ _ _ im hφ (by omega)
        | sliceE id off o' im hφ => omega
      · cases hv
    · -- without
      have hmx : mx' = none := by
        rcases onatA_inv rm hm with ⟨h, _⟩ | ⟨_, _, _, _, h⟩
        · exact h
        · cases h
      subst hmx
      split at hv
      · rename_i hcap
        split at hv
        · rename_i hc
          obtain ⟨h1, h2⟩ := hc
          cases hv
          have hb := sliceBounds_run (P := P) (w := w) (isS := true) (len := len) (cap := cap) rl rh (show OVR φ mx none from rm) hl hh hm h1 (fun _ => h2) (Nat.le_refl _) (by simp)
          cases hx with
          | nilslice =>
            refine ⟨_, sliceAt_slice hu hz hb, ?_⟩
            simp only [Option.getD_none, Option.map_none, ite_self]; exact .nilslice _ _
          | slice id off _ _ im hφ hc =>
            refine ⟨_, sliceAt_slice hu hz hb, ?_⟩
            simp only [Option.getD_none, Option.map_some, addr_add]
            split
            · exact .slice id off _ _ im hφ (by omega)
            · rw [Nat.add_assoc]; exact .slice id _ _ _ im hφ (by omega)
          | sliceU id off _ _ cap' im hφ hc k1 k2 k3 => omega
          | sliceE id off o' im hφ => omega
        · cases hv
      · rename_i hcap
        split at hv
        · rename_i a
          split at hv
          · rename_i hc
            obtain ⟨h1, h2, h3⟩ := hc
            cases hv
            cases hx with
            | slice id off _ _ im hφ hc => omega
            | sliceU id off _ _ cap' im hφ hc k1 k2 k3 =>
              have hb := sliceBounds_run (P := P) (w := w) (isS := true) (len := len) (cap := cap') rl rh (show OVR φ mx none from rm) hl hh hm h1 (fun _ => by simp only [Option.getD_none]; omega) (Nat.le_refl _) (by simp)
              have hes : im.esz = n := by
                simp only [liveE] at h3
                split at h3
                · rename_i hg
                  obtain ⟨im', e1, e2⟩ := H.obj _ _ hg
                  rw [hφ] at e1; cases e1
                  rw [e2.1] at h3; simpa using h3
                · cases h3
              refine ⟨_, sliceAt_slice hu hz hb, ?_⟩
              simp only [Option.getD_none, Option.map_some, addr_add]
              by_cases hcl : cap' = l.getD 0
              · rw [if_pos hcl]
                have e1 : h.getD len - l.getD 0 = 0 := by omega
                have e2 : UNK + (cap - UNK - l.getD 0) = UNK := by omega
                rw [e1, e2, hcl, Nat.sub_self]
                exact .sliceE id _ _ im hφ
              · rw [if_neg hcl, Nat.add_assoc]
                refine .sliceU id _ _ _ _ im hφ (by omega) (by omega) (by omega) ?_
                rw [hes] at k3 ⊢
                have : l.getD 0 * n + (cap' - l.getD 0) * n = cap' * n := by rw [← Nat.add_mul]; congr 1; omega
                omega
            | sliceE id off o' im hφ =>
              have e0 : l.getD 0 = 0 := by omega
              have e1 : h.getD 0 = 0 := by omega
              have hb := sliceBounds_run (P := P) (w := w) (isS := true) (len := 0) (cap := 0) rl rh (show OVR φ mx none from rm) hl hh hm h1 (fun _ => by simp only [Option.getD_none]; omega) (Nat.le_refl _) (by simp)
              refine ⟨_, sliceAt_slice hu hz hb, ?_⟩
              simp only [Option.getD_none, e0, e1, if_true, Nat.sub_self, Nat.zero_mul, Nat.add_zero]
              exact .sliceE id _ _ im hφ
          · cases hv
        · cases hv
  · -- an array
    rename_i len e a hu
    cases hz : szA P e with
    | none => rw [hz] at hv; cases hv
    | some n =>
    rw [hz] at hv; simp only [Option.bind_some] at hv
    split at hv
    · rename_i hc
      obtain ⟨h1, h2, h3, hlu, h4⟩ := hc
      cases hv
      cases hx with
      | ptr id off im hφ =>
        have hb := sliceBounds_run (P := P) (w := w) (isS := false) (len := len) (cap := len) rl rh rm hl hh hm h1 (fun _ => h2) h3 h4
        refine ⟨.slice (some (if m.getD len = l.getD 0 then ⟨im.blk, im.sh + off, none⟩ else (⟨im.blk, im.sh + off, none⟩ : Addr).add (l.getD 0 * n))) (h.getD len - l.getD 0) (m.getD len - l.getD 0), ?_, ?_⟩
        · simp [Instr.sliceAt, run_underlying hu, Instr.sureAddr, hb, szA_run hz]
        · simp only [addr_add]
          split
          · exact .slice id off _ _ im hφ (by omega)
          · rw [Nat.add_assoc]; exact .slice id _ _ _ im hφ (by omega)
    · cases hv
  · cases hv

end Go.Ev

/- The operations, one by one: what is written, what is built. -/
namespace Go.Ev
open Go
variable {P : Program} {φ : Inj} {lk : Nat} {s : HS} {w : World}

theorem putL_length {cs vs : List Value} {off : Nat} (h : off + vs.length ≤ cs.length) : (putL cs off vs).length = cs.length := by
  simp [putL]; omega

theorem getElem?_putL {cs vs : List Value} {off : Nat} (h : off + vs.length ≤ cs.length) (j : Nat) :
    (putL cs off vs)[j]? = if j < off then cs[j]? else if j < off + vs.length then vs[j - off]? else cs[j]? := by
  unfold putL
  by_cases h1 : j < off
  · rw [if_pos h1, List.getElem?_append_left (by simp; omega), List.getElem?_take, if_pos h1]
  · rw [if_neg h1, List.getElem?_append_right (by simp; omega)]
    have e : (cs.take off).length = off := by simp; omega
    rw [e]
    by_cases h2 : j < off + vs.length
    · rw [if_pos h2, List.getElem?_append_left (by omega)]
    · rw [if_neg h2, List.getElem?_append_right (by omega), List.getElem?_drop]
      congr 1; omega

theorem LR.put {cs ds vs us : List Value} (h : LR φ cs ds) (hv : LR φ vs us) (off : Nat) : LR φ (putL cs off vs) (putL ds off us) :=
  (h.take off).append (hv.append (by rw [hv.1]; exact h.drop _))

/-! ### Stores -/
theorem writeA_inv {hp h' : T AObj} {a : Addr} {vs : List Value} (h : writeA lk hp a vs = some h') :
    a.spot = none ∧ ∃ e cs, hp.get a.block = some (.cells true e cs) ∧ lk ≤ a.block ∧ a.off + vs.length ≤ cs.length ∧ vs.all Value.oneCell' = true ∧
      h' = hp.put a.block (some (.cells true e (putL cs a.off vs))) := by
  unfold writeA at h
  split at h
  · rename_i e cs h1 h2
    split at h
    · rename_i hc; obtain ⟨a1, a2, a3⟩ := hc; cases h; exact ⟨h1, e, cs, h2, a1, a2, a3, rfl⟩
    · cases h
  · cases h

theorem LR.one {vs us : List Value} (h : LR φ vs us) (h1 : vs.all Value.oneCell' = true) : ∀ v ∈ us, v.oneCell' = true := by
  intro v hv
  obtain ⟨i, hi⟩ := List.mem_iff_getElem?.1 hv
  have hl : i < vs.length := by have := (List.getElem?_eq_some_iff.1 hi).1; have := h.1; omega
  have := h.2 i _ v (List.getElem?_eq_getElem hl) hi
  rw [this.one]
  rw [List.all_eq_true] at h1
  exact h1 _ (List.getElem_mem hl)

theorem writeA_sound (H : HR P φ s w) {a : Addr} {vs us : List Value} {h' : T AObj} {im : Img} (hφ : φ a.block = some im) (hr : LR φ vs us) (h : writeA lk s.hp a vs = some h') :
    ∃ w', (storeCells ⟨im.blk, im.sh + a.off, none⟩ us).run P w = .ok () w' ∧ Post P φ lk s w φ { s with hp := h' } w' := by
  obtain ⟨_, e, cs, hg, hlk, hl, h1, rfl⟩ := writeA_inv h
  obtain ⟨im', e1, e2⟩ := H.obj _ _ hg
  rw [hφ] at e1; cases e1
  obtain ⟨hz, c, fz, hob, hsz, hle, hcs, hfz⟩ := e2
  have hlen := hr.1
  obtain ⟨c', hrun, hs', ha, hb, hc⟩ := run_store_row P im.blk (im.sh + a.off) e fz us 0 w c hob (by omega) (hr.one h1) (fun j j1 _ => hfz rfl j (by omega))
  refine ⟨_, hrun, Post.set (o := .cells true e (putL cs a.off vs)) (ob := .cells c' e fz) H hlk hg rfl hφ ⟨hz, c', fz, rfl, by omega, by rw [putL_length hl]; exact hle, fun i v hi => ?_, hfz⟩ (fun L h => by cases h)⟩
  rw [getElem?_putL hl] at hi
  split at hi
  · rename_i hlt
    rw [ha (im.sh + i) (by omega)]; exact hcs i v hi
  · split at hi
    · rename_i h2 h3
      obtain ⟨v', hv', hvr⟩ := hr.get hi
      refine ⟨v', ?_, hvr⟩
      have := hc (i - a.off) (by omega)
      rw [show im.sh + i = im.sh + a.off + 0 + (i - a.off) by omega, this]; exact hv'
    · rw [hb (im.sh + i) (by omega)]; exact hcs i v hi

theorem storeV_sound (H : HR P φ s w) {t : TypeId} {a a' v v' : Value} {s' : HS} (ha : VR φ a a') (hv : VR φ v v') (h : storeV P lk s t a v = some s') :
    ∃ w', (Instr.storeAt t a' v').run P w = .ok () w' ∧ Post P φ lk s w φ s' w' := by
  unfold storeV at h
  split at h
  · rename_i ad
    cases hz : szA P t with
    | none => rw [hz] at h; cases h
    | some n =>
      rw [hz] at h; simp only [Option.bind_some] at h
      split at h
      · rename_i hn
        cases hw : writeA lk s.hp ad v.cells.toList with
        | none => rw [hw] at h; cases h
        | some h' =>
          rw [hw] at h; cases h
          cases ha with
          | ptr id off im hφ =>
            obtain ⟨w', hr, hp⟩ := writeA_sound H hφ hv.cells hw
            refine ⟨w', ?_, hp⟩
            have hn' : v'.cells.size = n := by rw [← Array.length_toList, ← hv.cells.1]; exact hn
            simp [Instr.storeAt, Instr.sureAddr, storeVar, szA_run hz, hn', hr]
      · cases h
  · cases h

/-! ### New blocks -/
theorem newA_sound (H : HR P φ s w) (hlk : lk ≤ s.nx) (hf : φ s.nx = none) {e : TypeId} {n : Nat} (hz : szA P e = some n) {cs ds : List Value} (hr : LR φ cs ds) :
    Post P φ lk s w (addI φ s.nx ⟨w.heap.size, 0, ds.length, n⟩) (newA s e cs).2 (w.alloc (.cells ds.toArray e)) := by
  refine Post.new H hlk hf rfl ⟨hz, ds.toArray, (0, 0), rfl, by simp, by rw [hr.1]; exact Nat.le_refl _, fun i v hi => ?_, fun _ j _ h => by omega⟩
  obtain ⟨v', h1, h2⟩ := hr.get hi
  refine ⟨v', by simpa using h1, h2.mono (addI_sub hf)⟩

theorem zerosL_length (z : List Value) (n : Nat) : (zerosL z n).length = n * z.length := by
  induction n with
  | zero => simp [zerosL]
  | succ n ih => simp only [zerosL, List.length_append, ih, Nat.add_mul]; omega

theorem zerosL_get (z : List Value) (n j : Nat) (h : j < n * z.length) : (zerosL z n)[j]? = z[j % z.length]? := by
  induction n generalizing j with
  | zero => simp at h
  | succ n ih =>
    simp only [zerosL]
    by_cases hj : j < z.length
    · rw [List.getElem?_append_left hj, Nat.mod_eq_of_lt hj]
    · rw [List.getElem?_append_right (by omega), ih _ (by rw [Nat.add_mul] at h; omega)]
      congr 1
      rw [← Nat.mod_eq_sub_mod (by omega)]

theorem range_zeros (z : Array Value) (n : Nat) : (Array.range (n * z.size)).map (fun j => z[j % z.size]!) = (zerosL z.toList n).toArray := by
  apply Array.ext
  · simp [zerosL_length]
  · intro i h1 h2
    have hi : i < n * z.size := by simpa using h1
    have hz : 0 < z.size := by
      rcases Nat.eq_zero_or_pos z.size with h | h
      · rw [h] at hi; simp at hi
      · exact h
    have hm : i % z.size < z.size := Nat.mod_lt _ hz
    have := zerosL_get z.toList n i (by simpa using hi)
    simp only [Array.length_toList, Array.getElem?_toList] at this
    simp only [Array.getElem_map, Array.getElem_range, List.getElem_toArray]
    rw [List.getElem?_eq_getElem (by simpa using h2), Array.getElem?_eq_getElem hm] at this
    rw [getElem!_pos z (i % z.size) hm]
    exact (Option.some.inj this).symm

theorem LR.plain_cells {z : Value} (h : plainN 4 z = true) : LR φ z.cells.toList z.cells.toList := (VR.plain 4 z h).cells
theorem LR.zeros {z : List Value} (h : LR φ z z) (n : Nat) : LR φ (zerosL z n) (zerosL z n) := by
  induction n with
  | zero => exact LR.nil φ
  | succ n ih => exact h.append ih

theorem alloc_sound (H : HR P φ s w) (hlk : lk ≤ s.nx) (hf : φ s.nx = none) {t : TypeId} {z : Value} {n : Nat} (hz : zeroA P t = some z) (hs : szA P t = some n) :
    ∃ v' φ' w', (Instr.alloc t true (.tuple #[])).run P w = .ok v' w' ∧ VR φ' (.pointer (some ⟨s.nx, 0, none⟩)) v' ∧ Post P φ lk s w φ' (newA s t z.cells.toList).2 w' := by
  obtain ⟨h1, h2⟩ := zeroA_run hz w
  have hp := newA_sound H hlk hf hs (LR.plain_cells (φ := φ) h2)
  refine ⟨.pointer (some ⟨w.heap.size, 0, none⟩), _, _, ?_, .ptr s.nx 0 _ (addI_self φ s.nx _), hp⟩
  simp [Instr.alloc, h1, newVar, newRow]

theorem box_sound (H : HR P φ s w) (hlk : lk ≤ s.nx) (hf : φ s.nx = none) {t : TypeId} {v v' : Value} {n : Nat} (hv : VR φ v v') (hs : szA P t = some n) :
    ∃ u' φ' w', (Instr.box t v').run P w = .ok u' w' ∧ VR φ' (.pointer (some ⟨s.nx, 0, none⟩)) u' ∧ Post P φ lk s w φ' (newA s t v.cells.toList).2 w' := by
  have hp := newA_sound H hlk hf hs hv.cells
  refine ⟨.pointer (some ⟨w.heap.size, 0, none⟩), _, _, ?_, .ptr s.nx 0 _ (addI_self φ s.nx _), hp⟩
  simp [Instr.box, newVar, newRow]

/-! ### Aggregates that are built -/
theorem foldl_put (off : Nat) : ∀ (vs : List Value) (k : Nat) (cs : Array Value), off + k + vs.length ≤ cs.size →
    (vs.zipIdx k).foldl (fun (cs : Array Value) (p : Value × Nat) => cs.setIfInBounds (off + p.2) p.1) cs = (putL cs.toList (off + k) vs).toArray := by
  intro vs
  induction vs with
  | nil => intro k cs h; simp [putL]
  | cons v vs ih =>
    intro k cs h
    simp only [List.length_cons] at h
    simp only [List.zipIdx_cons, List.foldl_cons]
    rw [ih (k + 1) _ (by simp; omega)]
    apply Array.ext'
    simp only
    apply List.ext_getElem?
    intro j
    rw [getElem?_putL (by simp; omega), getElem?_putL (by simp; omega)]
    simp only [List.length_cons]
    by_cases h1 : j < off + k
    · rw [if_pos h1, if_pos (by omega)]; simp [List.getElem?_set_ne (show off + k ≠ j by omega)]
    · rw [if_neg h1]
      by_cases h2 : j = off + k
      · subst h2
        rw [if_pos (by omega), if_pos (by omega)]
        simp only [Array.toList_setIfInBounds, Nat.sub_self, List.getElem?_cons_zero]
        rw [List.getElem?_set_self (by simp; omega)]
      · rw [if_neg (by omega)]
        by_cases h3 : j < off + k + (vs.length + 1)
        · rw [if_pos (by omega), if_pos h3]
          rw [show j - (off + k) = (j - (off + (k + 1))) + 1 by omega]; rfl
        · rw [if_neg (by omega), if_neg h3]; simp [List.getElem?_set_ne (show off + k ≠ j by omega)]

def PR (φ : Inj) : List (Nat × Value) → List (Nat × Value) → Prop
  | [], [] => True
  | (i, v) :: r, (j, u) :: q => i = j ∧ VR φ v u ∧ PR φ r q
  | _, _ => False

theorem fillA_sound {place : Nat → Option (Nat × Nat)} : ∀ (ps ps' : List (Nat × Value)) (cs ds cs1 : List Value), PR φ ps ps' → LR φ cs ds → fillA place cs ps = some cs1 →
    ∃ ds1, Instr.fill place ds.toArray ps' = some ds1.toArray ∧ LR φ cs1 ds1 := by
  intro ps
  induction ps with
  | nil =>
    intro ps' cs ds cs1 hp hr h
    cases ps' with
    | nil => simp only [fillA, Option.some.injEq] at h; subst h; exact ⟨ds, rfl, hr⟩
    | cons p q => exact hp.elim
  | cons p ps ih =>
    intro ps' cs ds cs1 hp hr h
    obtain ⟨i, v⟩ := p
    cases ps' with
    | nil => exact hp.elim
    | cons p' ps' =>
      obtain ⟨j, u⟩ := p'
      obtain ⟨rfl, hv, hps⟩ := hp
      simp only [fillA] at h
      cases hpl : place i with
      | none => rw [hpl] at h; cases h
      | some x =>
        obtain ⟨off, size⟩ := x
        rw [hpl] at h; simp only [Option.bind_some] at h
        split at h
        · cases h
        · rename_i hc
          have hvl : u.cells.size = v.cells.toList.length := by rw [hv.cells.1]; simp
          have hdl := hr.1
          have c1 : u.cells.size = size := by omega
          have c2 : off + u.cells.size ≤ ds.length := by omega
          obtain ⟨ds1, h1, h2⟩ := ih ps' _ _ cs1 hps (hr.put hv.cells off) h
          refine ⟨ds1, ?_, h2⟩
          rw [Instr.fill, hpl]
          simp only [c1, ne_eq, not_true_eq_false, decide_false, Bool.false_or]
          rw [if_neg (by simp; omega)]
          rw [← h1]
          congr 1
          have := foldl_put off u.cells.toList 0 ds.toArray (by simp; omega)
          simp only [Nat.add_zero] at this
          rw [← this, ← Array.foldl_toList]
          simp

theorem omap_inv {α β : Type} {f : α → Option β} : ∀ {xs : List α} {ys : List β}, omap f xs = some ys → ys.length = xs.length ∧ ∀ (i : Nat) (x : α), xs[i]? = some x → ∃ y, f x = some y ∧ ys[i]? = some y := by
  intro xs
  induction xs with
  | nil => intro ys h; simp only [omap, Option.some.injEq] at h; subst h; exact ⟨rfl, fun i x hx => by simp at hx⟩
  | cons x xs ih =>
    intro ys h
    simp only [omap] at h
    cases hx : f x with
    | none => rw [hx] at h; cases h
    | some y =>
      rw [hx] at h; simp only [Option.bind_some] at h
      cases hxs : omap f xs with
      | none => rw [hxs] at h; cases h
      | some zs =>
        rw [hxs] at h; cases h
        obtain ⟨h1, h2⟩ := ih hxs
        refine ⟨by simp [h1], fun i u hu => ?_⟩
        cases i with
        | zero => simp only [List.getElem?_cons_zero, Option.some.injEq] at hu; subst hu; exact ⟨y, hx, rfl⟩
        | succ i => exact h2 i u hu

theorem mapM_sizes : ∀ {fs : List Field} {ys : List (Nat × Nat)}, omap (fun (f : Field) => (szA P f.type).map fun n => (f.offset, n)) fs = some ys →
    (fs.mapM (fun (f : Field) => (do pure (f.offset, ← sizeOf f.type) : Sem (Nat × Nat)))).run P w = .ok ys w := by
  intro fs
  induction fs with
  | nil => intro ys h; simp only [omap, Option.some.injEq] at h; subst h; rfl
  | cons f fs ih =>
    intro ys h
    simp only [omap] at h
    cases hz : szA P f.type with
    | none => rw [hz] at h; cases h
    | some n =>
      rw [hz] at h; simp only [Option.map_some, Option.bind_some] at h
      cases hxs : omap (fun (f : Field) => (szA P f.type).map fun n => (f.offset, n)) fs with
      | none => rw [hxs] at h; cases h
      | some zs =>
        rw [hxs] at h; cases h
        rw [List.mapM_cons]
        simp only [Sem.run_bind, szA_run hz, Result.andThen_ok, ih hxs, Sem.run_pure]

theorem buildA_sound {t : TypeId} {ps ps' : List (Nat × Value)} {v : Value} (hp : PR φ ps ps') (h : buildA P t ps = some v) : ∃ v', (Instr.build t ps'.toArray).run P w = .ok v' w ∧ VR φ v v' := by
  unfold buildA at h
  cases hz : zeroA P t with
  | none => rw [hz] at h; cases h
  | some z =>
    rw [hz] at h; simp only [Option.bind_some] at h
    obtain ⟨z1, z2⟩ := zeroA_run hz w
    split at h
    · rename_i fs hu
      cases ho : omap (fun (f : Field) => (szA P f.type).map fun n => (f.offset, n)) fs.toList with
      | none => rw [ho] at h; cases h
      | some places =>
        rw [ho] at h; simp only [Option.bind_some] at h
        cases hf : fillA (fun i => places[i]?) z.cells.toList ps with
        | none => rw [hf] at h; cases h
        | some cs =>
          rw [hf] at h; cases h
          obtain ⟨ds, h1, h2⟩ := fillA_sound ps ps' _ _ _ hp (LR.plain_cells z2) hf
          refine ⟨_, ?_, VR.agg' h2⟩
          have hm := mapM_sizes (P := P) (w := w) ho
          have : (fun (i : Nat) => places.toArray[i]?) = (fun (i : Nat) => places[i]?) := by funext i; simp
          simp only [Instr.build, Sem.run_bind, z1, run_underlying hu, Result.andThen_ok]
          rw [Array.mapM_eq_mapM_toList]
          simp only [Sem.run_map, hm, Result.andThen_ok, this]
          simp only [Array.toArray_toList] at h1
          rw [h1]; rfl
    · rename_i n elem hu
      cases hs : szA P elem with
      | none => rw [hs] at h; cases h
      | some size =>
        rw [hs] at h; simp only [Option.bind_some] at h
        cases hf : fillA (fun i => some (i * size, size)) z.cells.toList ps with
        | none => rw [hf] at h; cases h
        | some cs =>
          rw [hf] at h; cases h
          obtain ⟨ds, h1, h2⟩ := fillA_sound ps ps' _ _ _ hp (LR.plain_cells z2) hf
          refine ⟨_, ?_, VR.agg' h2⟩
          simp only [Array.toArray_toList] at h1
          simp only [Instr.build, Sem.run_bind, z1, run_underlying hu, Result.andThen_ok, szA_run hs]
          rw [h1]; rfl
    · cases h

theorem buildSliceA_sound (H : HR P φ s w) (hlk : lk ≤ s.nx) (hf : φ s.nx = none) {t : TypeId} {len : Nat} {ps ps' : List (Nat × Value)} {v : Value} {s' : HS} (hp : PR φ ps ps')
    (h : buildSliceA P t len ps s = some (v, s')) : ∃ v' φ' w', (Instr.buildSlice t len ps'.toArray).run P w = .ok v' w' ∧ VR φ' v v' ∧ Post P φ lk s w φ' s' w' := by
  unfold buildSliceA at h
  cases he : elemA P t with
  | none => rw [he] at h; cases h
  | some e =>
  rw [he] at h; simp only [Option.bind_some] at h
  cases hs : szA P e with
  | none => rw [hs] at h; cases h
  | some size =>
  rw [hs] at h; simp only [Option.bind_some] at h
  cases hz : zeroA P e with
  | none => rw [hz] at h; cases h
  | some z =>
  rw [hz] at h; simp only [Option.bind_some] at h
  split at h
  · rename_i hc
    obtain ⟨c1, c2, c3⟩ := hc
    cases hfl : fillA (fun i => some (i * size, size)) (zerosL z.cells.toList len) ps with
    | none => rw [hfl] at h; cases h
    | some cs =>
      rw [hfl] at h; cases h
      obtain ⟨z1, z2⟩ := zeroA_run hz w
      obtain ⟨ds, h1, h2⟩ := fillA_sound ps ps' _ _ _ hp ((LR.plain_cells z2).zeros len) hfl
      have hpost := newA_sound H hlk hf hs h2
      have hzs : z.cells.size = size := by simpa using c1
      have hlen : len < UNK := by
        have : len * 1 ≤ len * size := Nat.mul_le_mul_left _ (by omega)
        unfold UNK; omega
      refine ⟨.slice (some ⟨w.heap.size, 0, none⟩) len len, _, _, ?_, .slice s.nx 0 len len _ (addI_self φ s.nx _) hlen, hpost⟩
      have hu := elemA_und he
      have c3' : ¬ (len * size > 2 ^ 24) := by omega
      simp only [Instr.buildSlice, Sem.run_bind, run_underlying hu, Result.andThen_ok, szA_run hs, c3', if_false]
      by_cases h0 : len * size = 0
      · have hl0 : len = 0 := by rcases Nat.mul_eq_zero.1 h0 with h | h; exact h; exact absurd h c2
        subst hl0
        simp only [zerosL] at h1
        have hr0 : ∀ f : Nat → Value, (Array.range (0 * size)).map f = #[] := by intro f; simp
        simp only [if_pos h0, Sem.run_pure, Result.andThen_ok, Sem.run_bind, hr0]
        rw [h1]; rfl
      · have hr := range_zeros z.cells len
        rw [hzs] at hr
        simp only [if_neg h0, Sem.run_bind, z1, Result.andThen_ok, Sem.run_pure, hzs, hr]
        rw [h1]; rfl
  · cases h

end Go.Ev

/- The operations, one by one: append, copy, clear, make, len, maps. -/
namespace Go.Ev
open Go
variable {P : Program} {φ : Inj} {lk : Nat} {s : HS} {w : World}

theorem lt_UNK {n : Nat} (h : n ≤ 18446744073709551616) : n < UNK := by unfold UNK; omega

theorem lenV_run {y y' : Value} {n : Nat} (hy : VR φ y y') (h : lenV y = some n) (w : World) : (Builtin.lenOf y').run P w = .ok n w := by
  unfold lenV at h
  split at h
  · cases h; cases hy <;> rfl
  · cases h; cases hy; rfl
  · cases h

theorem firstA_sound (H : HR P φ s w) {y y' : Value} {size n m : Nat} {new : List Value} (hy : VR φ y y') (hm : lenV y = some m) (hnm : n ≤ m) (h : firstA s.hp size n y = some new) :
    ∃ new', LR φ new new' ∧ new.length = n * size ∧ ∀ w₂ : World, w₂.heap = w.heap → (Builtin.firstCells size n y').run P w₂ = .ok new'.toArray w₂ := by
  unfold firstA at h
  split at h
  · rename_i a l c
    have hlen := (readA_inv h).2
    obtain ⟨_, _, _, _, hc⟩ := hlen
    have hnl := cutL_length hc
    have key : ∀ im off id, φ id = some im → a = ⟨id, off, none⟩ → ∃ new', LR φ new new' ∧ new.length = n * size ∧
        ∀ w₂ : World, w₂.heap = w.heap → (loadCells ⟨im.blk, im.sh + off, none⟩ (n * size)).run P w₂ = .ok new'.toArray w₂ := fun im off id hφ e => by
      subst e
      obtain ⟨vs', h1, h2, h3⟩ := readA_sound H h hφ
      refine ⟨vs', h1, hnl, fun w₂ hw => ?_⟩
      have := run_load_row P w₂ im.blk (im.sh + off) vs' (fun j v hj => by
        have := h3 j v hj
        simp only [World.cell?, hw] at this ⊢; exact this)
      rwa [h2] at this
    cases hy with
    | slice id off _ _ im hφ hc' => exact key im off id hφ rfl
    | sliceU id off _ _ cap' im hφ hc' h1 h2 h3 => exact key im off id hφ rfl
    | sliceE id off o' im hφ =>
      simp only [lenV, Option.some.injEq] at hm
      have hn : n = 0 := by omega
      subst hn
      simp only [Nat.zero_mul] at hnl
      have : new = [] := List.length_eq_zero_iff.1 hnl
      subst this
      exact ⟨[], LR.nil φ, by simp, fun w₂ _ => by simp [Builtin.firstCells, loadCells, loadCellsFrom]⟩
  · cases hy
    split at h
    · rename_i hn
      subst hn; cases h
      exact ⟨[], LR.nil φ, by simp, fun w₂ _ => by simp [Builtin.firstCells]⟩
    · cases h
  · rename_i st
    cases hy
    split at h
    · rename_i hc
      obtain ⟨rfl, hns⟩ := hc
      cases h
      refine ⟨(st.extract 0 n).data.toList.map fun b => Value.int .u8 b.toNat, ⟨rfl, fun i v v' a b => ?_⟩, ?_, fun w₂ _ => ?_⟩
      · rw [a] at b; cases b
        simp only [List.getElem?_map, Option.map_eq_some_iff] at a
        obtain ⟨x, _, rfl⟩ := a; exact .int _ _
      · have : (st.extract 0 n).size = n := by rw [ByteArray.size_extract]; omega
        have h2 : (st.extract 0 n).data.toList.length = n := this
        rw [List.length_map, h2]; omega
      · simp only [Builtin.firstCells, Sem.run_pure]
        congr 1
        apply Array.ext'; simp
    · cases h
  · cases h

/-- append in the room that there is. -/
theorem run_append_in {A : Array TypeId} {B : Array Value} {t u e ty : TypeId} {d : TypeDesc} {i : TypeInfo} {base : Option Addr} {len cap n : Nat} {y : Value} {new : List Value} {w' : World}
    (hA0 : A[0]? = some t) (hA1 : A[1]? = some u) (hB0 : B[0]? = some (.slice base len cap)) (hB1 : B[1]? = some y) (hu : P.underlying t = some (.slice e)) (hu' : P.underlying u = some d) (hd : ∀ k, d ≠ .int k)
    (hi : P.info? e = some i) (hn : (Builtin.lenOf y).run P w = .ok n w) (hfit : len + n ≤ cap) (hnew : (Builtin.firstCells i.size n y).run P w = .ok new.toArray w)
    (hst : (match base with | some a => storeCells (a.add (len * i.size)) new | none => pure () : Sem Unit).run P w = .ok () w') :
    (Builtin.append_ A ty B).run P w = .ok (.slice base (len + n) cap) w' := by
  unfold Builtin.append_
  simp only [hA0, hA1, hB0, hB1, Sem.run_bind, run_underlying hu, run_underlying hu', Result.andThen_ok, sizeOf, typeInfo, run_program, hi, Sem.run_pure, Bool.false_eq_true, if_false, hn, hfit, if_true, Bool.not_false, hnew]
  cases base with
  | none => simp only [Sem.run_pure, Result.ok.injEq, true_and] at hst; subst hst; rfl
  | some a => simp only at hst ⊢; simp [hst]

/-- append to a new row. -/
theorem run_append_out {A : Array TypeId} {B : Array Value} {t u e ty : TypeId} {d : TypeDesc} {i : TypeInfo} {z : Value} {base : Option Addr} {len cap n : Nat} {y : Value} {old new : List Value}
    (hA0 : A[0]? = some t) (hA1 : A[1]? = some u) (hB0 : B[0]? = some (.slice base len cap)) (hB1 : B[1]? = some y) (hu : P.underlying t = some (.slice e)) (hu' : P.underlying u = some d) (hd : ∀ k, d ≠ .int k)
    (hi : P.info? e = some i) (hz : i.zero = some z) (hn : (Builtin.lenOf y).run P w = .ok n w) (hgt : cap < len + n) (hb : (len + n) * (i.bytes + i.size) ≤ 1099511627776) (hs : i.size ≠ 0)
    (hold : (Builtin.firstCells i.size len (.slice base len cap)).run P w.drew = .ok old.toArray w.drew) (hnew : (Builtin.firstCells i.size n y).run P w.drew = .ok new.toArray w.drew) :
    (Builtin.append_ A ty B).run P w = .ok (.slice (some ⟨w.heap.size, 0, none⟩) (len + n) (grownCap w (len + n) cap e))
      (w.drew.alloc (.cells (old.toArray ++ new.toArray ++ Builtin.zeroCells z.cells (grownCap w (len + n) cap e - (len + n))) e)) := by
  have hfit : ¬ (len + n ≤ cap) := by omega
  have hm1 : (len + n) * 1 ≤ (len + n) * (i.bytes + i.size) := Nat.mul_le_mul_left _ (by omega)
  have hm2 : (len + n) * i.bytes ≤ (len + n) * (i.bytes + i.size) := Nat.mul_le_mul_left _ (by omega)
  have h63 : ¬ (((len + n : Nat) : Int) > IntKind.i64.max ∧ (false = true ∨ i.bytes = 0)) := by
    have : IntKind.i64.max = 9223372036854775807 := by decide
    rw [this]; omega
  have h48 : ¬ (Builtin.nextslicecap (len + n) cap * i.bytes > 2 ^ 48) := by
    have := growslice_fits (need := len + n) (old := cap) (bytes := i.bytes) (by omega) (by omega)
    omega
  unfold Builtin.append_
  simp only [hA0, hA1, hB0, hB1, Sem.run_bind, run_underlying hu, run_underlying hu', Result.andThen_ok, sizeOf, typeInfo, run_program, hi, Sem.run_pure, Bool.false_eq_true, if_false, hn, hfit, Bool.not_false, if_true]
  simp only [Bool.false_eq_true] at h63
  rw [if_neg h63]
  simp only [Sem.run_bind, Result.andThen_ok, run_program, hi, Sem.run_pure]
  rw [if_neg h48]
  have hc : (choose (.appendCap (len + n) cap e)).run P w = .ok (grownCap w (len + n) cap e) w.drew := by
    simp [Question.forced, grownCap]
  simp only [hc, Result.andThen_ok, run_askRoom, hold, hnew, zeroValue, Sem.run_bind, typeInfo, run_program, hi, hz, Sem.run_pure, newRow, run_newObj]
  rfl

theorem info_all {e : TypeId} {size by_ : Nat} {z : Value} (hs : szA P e = some size) (hb : bytesA P e = some by_) (hz : zeroA P e = some z) :
    ∃ i : TypeInfo, P.info? e = some i ∧ i.size = size ∧ i.bytes = by_ ∧ i.zero = some z ∧ plainN 4 z = true := by
  unfold szA at hs; unfold bytesA at hb; unfold zeroA at hz
  cases hi : P.info? e with
  | none => rw [hi] at hs; cases hs
  | some i =>
    rw [hi] at hs hb hz
    cases hs; cases hb
    simp only [Option.bind_some] at hz
    cases hzz : i.zero with
    | none => rw [hzz] at hz; cases hz
    | some v =>
      rw [hzz] at hz
      simp only [Option.bind_some] at hz
      cases hp : plainN 4 v with
      | false => rw [hp] at hz; cases hz
      | true => rw [hp] at hz; cases hz; exact ⟨i, rfl, rfl, rfl, hzz, hp⟩

theorem grownCap_ge (w : World) (need old : Nat) (e : TypeId) : need ≤ grownCap w need old e := by
  unfold grownCap; simp only [Question.cut]; omega

/-- A new row for what is appended. -/
theorem newRow_sound (H : HR P φ s w) (hlk : lk ≤ s.nx) (hf : φ s.nx = none) {e : TypeId} {size need cap : Nat} (hz : szA P e = some size) {cs ds : List Value} (hr : LR φ cs ds)
    (hn : cs.length = need * size) (z : Array Value) (hzs : z.size = size) (hcap : need ≤ cap) :
    ∃ φ', VR φ' (.slice (some ⟨s.nx, 0, none⟩) need (UNK + need)) (.slice (some ⟨w.heap.size, 0, none⟩) need cap) ∧
      Post P φ lk s w φ' (newA s e cs).2 (w.drew.alloc (.cells (ds.toArray ++ Builtin.zeroCells z (cap - need)) e)) := by
  have H1 : HR P φ s w.drew := H.same rfl
  have hsz : (Builtin.zeroCells z (cap - need)).size = (cap - need) * size := by rw [size_zeroCells, hzs]
  have hds : ds.length = need * size := by rw [← hr.1]; exact hn
  have htot : need * size + (cap - need) * size = cap * size := by rw [← Nat.add_mul]; congr 1; omega
  refine ⟨addI φ s.nx ⟨w.heap.size, 0, cap * size, size⟩, .sliceU s.nx 0 _ _ _ _ (addI_self φ s.nx _) (by omega) (by omega) hcap (by simp), ?_⟩
  refine (Post.same (w' := w.drew) H rfl rfl rfl rfl (Nat.le_succ _)).trans (Post.new (o := .cells true e cs) (im := ⟨w.heap.size, 0, cap * size, size⟩)
    (ob := .cells (ds.toArray ++ Builtin.zeroCells z (cap - need)) e) H1 hlk hf rfl ?_)
  refine ⟨hz, ds.toArray ++ Builtin.zeroCells z (cap - need), (0, 0), rfl, by simp [hsz, hds]; omega, ?_, fun i v hi => ?_, fun _ j _ h => by omega⟩
  · rw [hn]; exact Nat.mul_le_mul_right _ hcap
  · obtain ⟨v', h1, h2⟩ := hr.get hi
    refine ⟨v', ?_, h2.mono (addI_sub hf)⟩
    have hlt := (List.getElem?_eq_some_iff.1 h1).1
    rw [Nat.zero_add, Array.getElem?_append_left (by simpa using hlt)]
    simpa using h1

theorem appendA_sound (H : HR P φ s w) (hlk : lk ≤ s.nx) {t u ty : TypeId} {d : TypeDesc} {A : Array TypeId} {B : Array Value} {x x' y y' v : Value} {s' : HS} (hfr : Fresh φ s.nx s'.nx)
    (hx : VR φ x x') (hy : VR φ y y') (hA0 : A[0]? = some t) (hA1 : A[1]? = some u) (hB0 : B[0]? = some x') (hB1 : B[1]? = some y') (hu' : P.underlying u = some d) (hd : ∀ k, d ≠ .int k)
    (h : appendA P lk t x y s = some (v, s')) : ∃ v' φ' w', (Builtin.append_ A ty B).run P w = .ok v' w' ∧ VR φ' v v' ∧ Post P φ lk s w φ' s' w' := by
  unfold appendA at h
  split at h
  · rename_i base len cap
    cases he : elemA P t with
    | none => rw [he] at h; cases h
    | some e =>
    rw [he] at h; simp only [Option.bind_some] at h
    cases hs : szA P e with
    | none => rw [hs] at h; cases h
    | some size =>
    rw [hs] at h; simp only [Option.bind_some] at h
    cases hb : bytesA P e with
    | none => rw [hb] at h; cases h
    | some by_ =>
    rw [hb] at h; simp only [Option.bind_some] at h
    cases hz : zeroA P e with
    | none => rw [hz] at h; cases h
    | some z =>
    rw [hz] at h; simp only [Option.bind_some] at h
    cases hn : lenV y with
    | none => rw [hn] at h; cases h
    | some n =>
    rw [hn] at h; simp only [Option.bind_some] at h
    obtain ⟨i, hi, rfl, rfl, hiz, hzp⟩ := info_all hs hb hz
    have hu := elemA_und he
    have hnr := lenV_run (P := P) hy hn w
    split at h
    · cases h
    · rename_i hc
      simp only [not_or] at hc
      obtain ⟨hs0, hzl, hbd⟩ := hc
      simp only [Decidable.not_not] at hzl hbd
      have hzsz : z.cells.size = i.size := by simpa using hzl
      split at h
      · -- nothing is appended
        rename_i hn0
        subst hn0
        split at h
        · rename_i hcap
          cases h
          have hf0 : (Builtin.firstCells i.size 0 y').run P w = .ok ([] : List Value).toArray w := by
            cases hy <;> first
              | (simp only [lenV] at hn; cases hn; done)
              | (simp [Builtin.firstCells, loadCells, loadCellsFrom]; done)
              | (simp [lenV] at hn; done)
          have main : ∀ (b : Option Addr) (c : Nat), len ≤ c → B[0]? = some (.slice b len c) → (Builtin.append_ A ty B).run P w = .ok (.slice b len c) w := fun b c hlc hB => by
            have := run_append_in (P := P) (w := w) (ty := ty) hA0 hA1 hB hB1 hu hu' hd hi hnr (new := []) (w' := w) (by omega) hf0 (by cases b <;> rfl)
            simpa using this
          cases hx with
          | nilslice =>
            rcases hcap with ⟨h1, h2⟩ | ⟨h1, h2⟩
            · exact ⟨_, φ, w, main none cap h2 hB0, .nilslice _ _, Post.refl H⟩
            · cases h2
          | slice id off _ _ im hφ hcu => exact ⟨_, φ, w, main _ cap (by omega) hB0, .slice id off _ _ im hφ hcu, Post.refl H⟩
          | sliceU id off _ _ cap' im hφ hcu k1 k2 k3 => exact ⟨_, φ, w, main _ cap' k2 hB0, .sliceU id off _ _ cap' im hφ hcu k1 k2 k3, Post.refl H⟩
          | sliceE id off o' im hφ => exact ⟨_, φ, w, main _ 0 (by omega) hB0, .sliceE id off o' im hφ, Post.refl H⟩
        · cases h
      · rename_i hn0
        cases hfa : firstA s.hp i.size n y with
        | none => rw [hfa] at h; cases h
        | some new =>
        rw [hfa] at h; simp only [Option.bind_some] at h
        obtain ⟨new', hnew, hnl, hnrun⟩ := firstA_sound H hy hn (Nat.le_refl _) hfa
        split at h
        · -- nil
          split at h
          · rename_i hc
            obtain ⟨rfl, rfl⟩ := hc
            cases h
            cases hx
            have hf : φ s.nx = none := hfr s.nx (Nat.le_refl _) (Nat.lt_succ_self _)
            have hrun := run_append_out (P := P) (w := w) (ty := ty) hA0 hA1 hB0 hB1 hu hu' hd hi hiz hnr (old := []) (new := new') (by omega) hbd hs0 (by simp [Builtin.firstCells]) (hnrun w.drew rfl)
            obtain ⟨φ', hv, hp⟩ := newRow_sound (lk := lk) H hlk hf hs hnew hnl z.cells hzsz (grownCap_ge w n 0 e)
            simp only [Nat.zero_add] at hrun
            refine ⟨_, φ', _, hrun, hv, ?_⟩
            simpa using hp
          · cases h
        · rename_i a
          split at h
          · rename_i hcu
            cases hx with
            | sliceU id off _ _ cap' im hφ hcu' k1 k2 k3 => omega
            | sliceE id off o' im hφ => omega
            | slice id off _ _ im hφ _ =>
              split at h
              · -- room that is known
                rename_i hfit
                cases hwa : writeA lk s.hp ⟨id, off + len * i.size, none⟩ new with
                | none => rw [hwa] at h; cases h
                | some h' =>
                rw [hwa] at h; cases h
                obtain ⟨w', hst, hp⟩ := writeA_sound H (a := ⟨id, off + len * i.size, none⟩) hφ hnew hwa
                refine ⟨_, φ, w', run_append_in (P := P) (w := w) hA0 hA1 hB0 hB1 hu hu' hd hi hnr hfit (hnrun w rfl) ?_, .slice id off _ _ im hφ hcu, hp⟩
                simp only [addr_add]
                rw [Nat.add_assoc]; exact hst
              · rename_i hfit
                cases hfo : firstA s.hp i.size len (.slice (some ⟨id, off, none⟩) len cap) with
                | none => rw [hfo] at h; cases h
                | some old =>
                rw [hfo] at h; cases h
                obtain ⟨old', hold, hol, horun⟩ := firstA_sound H (.slice id off len cap im hφ hcu) rfl (Nat.le_refl _) hfo
                have hf : φ s.nx = none := hfr s.nx (Nat.le_refl _) (Nat.lt_succ_self _)
                have hrun := run_append_out (P := P) (w := w) (ty := ty) hA0 hA1 hB0 hB1 hu hu' hd hi hiz hnr (by omega) hbd hs0 (horun w.drew rfl) (hnrun w.drew rfl)
                obtain ⟨φ', hv, hp⟩ := newRow_sound (lk := lk) H hlk hf hs (hold.append hnew) (by rw [List.length_append, hol, hnl, Nat.add_mul]) z.cells hzsz (grownCap_ge w (len + n) cap e)
                refine ⟨_, φ', _, hrun, hv, ?_⟩
                have e1 : old'.toArray ++ new'.toArray = (old' ++ new').toArray := by simp
                rw [e1]; exact hp
          · rename_i hcu
            split at h
            · -- room that is sure
              rename_i hfit
              cases hx with
              | slice id off _ _ im hφ hcu' => omega
              | sliceE id off o' im hφ => omega
              | sliceU id off _ _ cap' im hφ hcu' k1 k2 k3 =>
                cases hwa : writeA lk s.hp ⟨id, off + len * i.size, none⟩ new with
                | none => rw [hwa] at h; cases h
                | some h' =>
                rw [hwa] at h; cases h
                obtain ⟨w', hst, hp⟩ := writeA_sound H (a := ⟨id, off + len * i.size, none⟩) hφ hnew hwa
                refine ⟨_, φ, w', run_append_in (P := P) (w := w) hA0 hA1 hB0 hB1 hu hu' hd hi hnr (by omega) (hnrun w rfl) ?_, .sliceU id off _ _ cap' im hφ hcu' k1 (by omega) k3, hp⟩
                simp only [addr_add]
                rw [Nat.add_assoc]; exact hst
            · -- either
              rename_i hfit
              cases hfo : firstA s.hp i.size len (.slice (some a) len cap) with
              | none => rw [hfo] at h; cases h
              | some old =>
              rw [hfo] at h; simp only [Option.bind_some] at h
              obtain ⟨old', hold, hol, horun⟩ := firstA_sound H hx rfl (Nat.le_refl _) hfo
              have hlen : (old ++ new).length = (len + n) * i.size := by rw [List.length_append, hol, hnl, Nat.add_mul]
              split at h
              · rename_i e' cs hg
                split at h
                · rename_i hc
                  obtain ⟨hlka, rfl, hone⟩ := hc
                  cases h
                  have hf : φ s.nx = none := hfr s.nx (Nat.le_refl _) (Nat.lt_succ_self _)
                  have out : ∀ (b : Option Addr) (c : Nat), c < len + n → B[0]? = some (.slice b len c) → VR φ (.slice (some a) len cap) (.slice b len c) →
                      ∃ v' φ' w', (Builtin.append_ A ty B).run P w = .ok v' w' ∧ VR φ' (.slice (some ⟨s.nx, 0, none⟩) (len + n) (UNK + (len + n))) v' ∧
                        Post P φ lk s w φ' { hp := (s.hp.put a.block none).put s.nx (some (.cells true e' (old ++ new))), nx := s.nx + 1 } w' := fun b c hlt hB hvr => by
                    obtain ⟨old2, hold2, hol2, horun2⟩ := firstA_sound H hvr rfl (Nat.le_refl _) hfo
                    have hrun := run_append_out (P := P) (w := w) (ty := ty) hA0 hA1 hB hB1 hu hu' hd hi hiz hnr hlt hbd hs0 (horun2 w.drew rfl) (hnrun w.drew rfl)
                    have hdel := Post.del (lk := lk) H hlka (fun L h => by rw [hg] at h; cases h)
                    have H1 : HR P φ { s with hp := s.hp.put a.block none } w := H.del a.block
                    obtain ⟨φ', hv, hp⟩ := newRow_sound (lk := lk) H1 hlk hf hs (hold2.append hnew) hlen z.cells hzsz (grownCap_ge w (len + n) c e')
                    refine ⟨_, φ', _, hrun, hv, hdel.trans ?_⟩
                    have e1 : old2.toArray ++ new'.toArray = (old2 ++ new').toArray := by simp
                    rw [e1]; exact hp
                  cases hx with
                  | slice id off _ _ im hφ hcu' => omega
                  | sliceE id off o' im hφ => exact out _ 0 (by omega) hB0 (.sliceE id off o' im hφ)
                  | sliceU id off _ _ cap' im hφ hcu' k1 k2 k3 =>
                    by_cases hr : len + n ≤ cap'
                    · -- in place
                      obtain ⟨im', e1, e2⟩ := H.obj _ _ hg
                      rw [hφ] at e1; cases e1
                      obtain ⟨hz2, c, fz, hob, hsz, hle, hcs, hfz⟩ := e2
                      have hes : im.esz = i.size := by rw [hs] at hz2; exact (Option.some.inj hz2).symm
                      have hspace : off + (len + n) * i.size ≤ im.ext := by
                        have : (len + n) * i.size ≤ cap' * i.size := Nat.mul_le_mul_right _ hr
                        rw [hes] at k3; omega
                      have hnl' := hnew.1
                      have hsplit : (len + n) * i.size = len * i.size + n * i.size := Nat.add_mul _ _ _
                      obtain ⟨c', hrun, hs', ha, hb', hc⟩ := run_store_row P im.blk (im.sh + off + len * i.size) e' fz new' 0 w c hob (by omega) (hnew.one hone) (fun j j1 _ => hfz rfl j (by omega))
                      have hin := run_append_in (P := P) (w := w) (ty := ty) hA0 hA1 hB0 hB1 hu hu' hd hi hnr hr (hnrun w rfl) (w' := setB w im.blk (.cells c' e' fz)) (by simp only [addr_add]; exact hrun)
                      refine ⟨_, addI φ s.nx ⟨im.blk, im.sh + off, im.ext - off, im.esz⟩, _, hin, ?_, Post.turn (o := .cells true e' (old ++ new)) (ob := .cells c' e' fz) H hlka hg rfl (fun L h => by cases h) hφ hf rfl ⟨hz2, c', fz, rfl, by simp only; omega, ?_, fun j v hj => ?_, fun _ j h1 => hfz rfl j (by simp only at h1; omega)⟩⟩
                      · have := VR.sliceU (φ := addI φ s.nx ⟨im.blk, im.sh + off, im.ext - off, im.esz⟩) s.nx 0 (len + n) (UNK + (len + n)) cap' ⟨im.blk, im.sh + off, im.ext - off, im.esz⟩ (addI_self φ s.nx _) (by omega) (by omega) hr (by simp only; omega)
                        simp only [Nat.add_zero] at this; exact this
                      · simp only; rw [hlen]; omega
                      · simp only
                        by_cases hj1 : j < old.length
                        · rw [List.getElem?_append_left hj1] at hj
                          -- the cells that were there
                          have hcut := (readA_inv hfo).2
                          obtain ⟨wr2, e2, cs2, hg2, hcut⟩ := hcut
                          rw [hg] at hg2; cases hg2
                          obtain ⟨_, rfl⟩ := cutL_inv hcut
                          rw [getElem?_drop_take (by rw [hol] at hj1; exact hj1)] at hj
                          obtain ⟨v', q1, q2⟩ := hcs _ _ hj
                          refine ⟨v', ?_, q2.mono (addI_sub hf)⟩
                          rw [ha _ (by rw [hol] at hj1; omega), ← q1]; congr 1; simp only; omega
                        · rw [List.getElem?_append_right (by omega)] at hj
                          obtain ⟨v', q1, q2⟩ := hnew.get hj
                          refine ⟨v', ?_, q2.mono (addI_sub hf)⟩
                          have hlt := (List.getElem?_eq_some_iff.1 q1).1
                          have := hc (j - old.length) hlt
                          rw [q1] at this
                          rw [← this]; congr 1; rw [hol]; rw [hol] at hj1; omega
                    · exact out _ cap' (by omega) hB0 (.sliceU id off _ _ cap' im hφ hcu' k1 k2 k3)
                · cases h
              · cases h
  · cases h

end Go.Ev
