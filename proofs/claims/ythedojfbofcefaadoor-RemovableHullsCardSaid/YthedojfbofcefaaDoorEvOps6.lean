/- The operations, one by one: copy, clear, make, len, maps. -/
import Derived.Test.YthedojfbofcefaaDoorEvOps5
namespace Go.Ev
open Go
variable {P : Program} {φ : Inj} {lk : Nat} {s : HS} {w : World}

theorem copyA_sound (H : HR P φ s w) {t ty : TypeId} {A : Array TypeId} {B : Array Value} {x x' y y' v : Value} {s' : HS} (hx : VR φ x x') (hy : VR φ y y')
    (hA0 : A[0]? = some t) (hB0 : B[0]? = some x') (hB1 : B[1]? = some y') (h : copyA P lk t x y s = some (v, s')) :
    ∃ v' φ' w', (Builtin.copy_ A ty B).run P w = .ok v' w' ∧ VR φ' v v' ∧ Post P φ lk s w φ' s' w' := by
  unfold copyA at h
  split at h
  · rename_i base len cap
    cases he : elemA P t with
    | none => rw [he] at h; cases h
    | some e =>
    rw [he] at h; simp only [Option.bind_some] at h
    cases hs : szA P e with
    | none => rw [hs] at h; cases h
    | some size =>
    rw [hs] at h; simp only [Option.bind_some] at h
    cases hn : lenV y with
    | none => rw [hn] at h; cases h
    | some m =>
    rw [hn] at h; simp only [Option.bind_some] at h
    cases hfa : firstA s.hp size (Nat.min m len) y with
    | none => rw [hfa] at h; cases h
    | some new =>
    rw [hfa] at h; simp only [Option.bind_some] at h
    obtain ⟨new', hnew, hnl, hnrun⟩ := firstA_sound H hy hn (Nat.min_le_left _ _) hfa
    have hu := elemA_und he
    have hl := lenV_run (P := P) hy hn w
    have main : ∀ (b : Option Addr) (c : Nat) (w' : World), B[0]? = some (.slice b len c) → (match b with | some a => storeCells a new' | none => pure () : Sem Unit).run P w = .ok () w' →
        (Builtin.copy_ A ty B).run P w = .ok (goInt (Nat.min m len)) w' := fun b c w' hB hst => by
      simp only [Builtin.copy_, hA0, hB, hB1, Sem.run_bind, run_underlying hu, Result.andThen_ok, hl, szA_run hs, hnrun w rfl]
      cases b with
      | none => simp only [Sem.run_pure, Result.ok.injEq, true_and] at hst; subst hst; rfl
      | some a => simp only at hst ⊢; simp [hst]
    have nil0 : Nat.min m len = 0 → new' = [] := fun h0 => by
      have : new.length = 0 := by rw [hnl, show min m len = 0 from h0]; simp
      have := hnew.1; exact List.length_eq_zero_iff.1 (by omega)
    split at h
    · cases h
      cases hx
      exact ⟨_, φ, w, main none _ w hB0 rfl, .int _ _, Post.refl H⟩
    · rename_i a
      split at h
      · rename_i h0
        cases h
        have := nil0 h0
        subst this
        cases hx with
        | slice id off _ _ im hφ hc => exact ⟨_, φ, w, main _ _ w hB0 rfl, .int _ _, Post.refl H⟩
        | sliceU id off _ _ cap' im hφ hc h1 h2 h3 => exact ⟨_, φ, w, main _ _ w hB0 rfl, .int _ _, Post.refl H⟩
        | sliceE id off o' im hφ => exact ⟨_, φ, w, main _ _ w hB0 rfl, .int _ _, Post.refl H⟩
      · rename_i h0
        cases hw : writeA lk s.hp a new with
        | none => rw [hw] at h; cases h
        | some h' =>
          rw [hw] at h; cases h
          cases hx with
          | slice id off _ _ im hφ hc =>
            obtain ⟨w', hr, hp⟩ := writeA_sound H (a := ⟨id, off, none⟩) hφ hnew hw
            exact ⟨_, φ, w', main _ _ w' hB0 hr, .int _ _, hp⟩
          | sliceU id off _ _ cap' im hφ hc h1 h2 h3 =>
            obtain ⟨w', hr, hp⟩ := writeA_sound H (a := ⟨id, off, none⟩) hφ hnew hw
            exact ⟨_, φ, w', main _ _ w' hB0 hr, .int _ _, hp⟩
          | sliceE id off o' im hφ => exact absurd (Nat.min_zero m) h0
  · cases h

theorem zeroCells_zerosL (z : Array Value) (n : Nat) : Builtin.zeroCells z n = (zerosL z.toList n).toArray := range_zeros z n

theorem clearA_sound (H : HR P φ s w) {t ty : TypeId} {A : Array TypeId} {B : Array Value} {x x' v : Value} {s' : HS} (hx : VR φ x x')
    (hA0 : A[0]? = some t) (hB0 : B[0]? = some x') (h : clearA P lk t x s = some (v, s')) :
    ∃ v' φ' w', (Builtin.clear_ A ty B).run P w = .ok v' w' ∧ VR φ' v v' ∧ Post P φ lk s w φ' s' w' := by
  have hv0 : VR φ (.tuple #[]) (.tuple #[]) := VR.plain 1 _ rfl
  unfold clearA at h
  split at h
  · rename_i hu; cases h; cases hx
    exact ⟨.tuple #[], φ, w, by simp [Builtin.clear_, hA0, hB0, run_underlying hu], hv0, Post.refl H⟩
  · rename_i e a n c hu
    split at h
    · rename_i h0; subst h0; cases h
      cases hx <;> exact ⟨.tuple #[], φ, w, by simp [Builtin.clear_, hA0, hB0, run_underlying hu], hv0, Post.refl H⟩
    · rename_i h0
      cases hz : zeroA P e with
      | none => rw [hz] at h; cases h
      | some z =>
        rw [hz] at h; simp only [Option.bind_some] at h
        split at h
        · cases h
        · rename_i hzl
          obtain ⟨z1, z2⟩ := zeroA_run hz w
          cases hw : writeA lk s.hp a (zerosL z.cells.toList n) with
          | none => rw [hw] at h; cases h
          | some h' =>
            rw [hw] at h; cases h
            have hzr : LR φ (zerosL z.cells.toList n) (zerosL z.cells.toList n) := (LR.plain_cells z2).zeros n
            have main : ∀ (b : Addr) (w' : World) (c' : Nat), B[0]? = some (.slice (some b) n c') → (storeCells b (zerosL z.cells.toList n)).run P w = .ok () w' → (Builtin.clear_ A ty B).run P w = .ok (.tuple #[]) w' := fun b w' c' hB hst => by
              obtain ⟨m, rfl⟩ : ∃ m, n = m + 1 := ⟨n - 1, by omega⟩
              simp [Builtin.clear_, hA0, hB, run_underlying hu, z1, zeroCells_zerosL, hst]
            cases hx with
            | slice id off _ _ im hφ hc =>
              obtain ⟨w', hr, hp⟩ := writeA_sound H (a := ⟨id, off, none⟩) hφ hzr hw
              exact ⟨_, φ, w', main _ w' _ hB0 hr, hv0, hp⟩
            | sliceU id off _ _ cap' im hφ hc h1 h2 h3 =>
              obtain ⟨w', hr, hp⟩ := writeA_sound H (a := ⟨id, off, none⟩) hφ hzr hw
              exact ⟨_, φ, w', main _ w' _ hB0 hr, hv0, hp⟩
            | sliceE id off o' im hφ => exact absurd rfl h0
  · cases h

theorem makeSliceA_sound (H : HR P φ s w) (hlk : lk ≤ s.nx) (hf : φ s.nx = none) {t : TypeId} {l c l' c' v : Value} {s' : HS} (hl : VR φ l l') (hc : VR φ c c') (h : makeSliceA P t l c s = some (v, s')) :
    ∃ v' φ' w', (Instr.makeSlice t l' c').run P w = .ok v' w' ∧ VR φ' v v' ∧ Post P φ lk s w φ' s' w' := by
  unfold makeSliceA at h
  split at h
  · rename_i k1 l k2 c
    cases hl; cases hc
    cases he : elemA P t with
    | none => rw [he] at h; cases h
    | some e =>
    rw [he] at h; simp only [Option.bind_some] at h
    cases hs : szA P e with
    | none => rw [hs] at h; cases h
    | some size =>
    rw [hs] at h; simp only [Option.bind_some] at h
    cases hb : bytesA P e with
    | none => rw [hb] at h; cases h
    | some by_ =>
    rw [hb] at h; simp only [Option.bind_some] at h
    cases hz : zeroA P e with
    | none => rw [hz] at h; cases h
    | some z =>
    rw [hz] at h; simp only [Option.bind_some] at h
    split at h
    · rename_i hcond
      obtain ⟨c1, c2, c3, c4, c5, c6⟩ := hcond
      cases h
      obtain ⟨i, hi, rfl, rfl, hiz, hzp⟩ := info_all hs hb hz
      have hu := elemA_und he
      have hzs : z.cells.size = i.size := by simpa using c1
      have hp := newA_sound H hlk hf hs ((LR.plain_cells (φ := φ) hzp).zeros c.toNat)
      have wl : IntKind.i64.wrap l = l := by simp [IntKind.wrap, IntKind.bits, IntKind.signed]; omega
      have wc : IntKind.i64.wrap c = c := by simp [IntKind.wrap, IntKind.bits, IntKind.signed]; omega
      have hcu : c.toNat < UNK := lt_UNK (by omega)
      refine ⟨.slice (some ⟨w.heap.size, 0, none⟩) l.toNat c.toNat, _, _, ?_, .slice s.nx 0 _ _ _ (addI_self φ s.nx _) hcu, hp⟩
      have g1 : ¬ (l > c) := by omega
      have g2 : ¬ (l < 0) := by omega
      have g3 : ¬ (c < 0) := by omega
      have g4 : ¬ ((i.bytes : Int) * c > 281474976710656) := by omega
      by_cases h0 : c.toNat * i.size = 0
      · have hc0 : c.toNat = 0 := by rcases Nat.mul_eq_zero.1 h0 with h | h; exact h; exact absurd h c2
        have hr0 : ∀ f : Nat → Value, (Array.range 0).map f = #[] := by intro f; simp
        simp [Instr.makeSlice, run_underlying hu, asInt, asIntOf, typeInfo, hi, sizeOf, wl, wc, g1, g2, g3, g4, hc0, zerosL, newRow]
        rw [hr0]
      · have hr := range_zeros z.cells c.toNat
        rw [hzs] at hr
        simp [Instr.makeSlice, run_underlying hu, asInt, asIntOf, typeInfo, hi, sizeOf, wl, wc, g1, g2, g3, g4, zeroValue, hiz, hzs, hr, newRow]
        exact fun h => absurd h h0
    · cases h
  · cases h

theorem lenA_sound (H : HR P φ s w) {t ty : TypeId} {A : Array TypeId} {B : Array Value} {x x' v : Value} (hx : VR φ x x') (hA0 : A[0]? = some t) (hB0 : B[0]? = some x') (h : lenA P t x s = some v) :
    ∃ v', (Builtin.len_ A ty B).run P w = .ok v' w ∧ VR φ v v' := by
  unfold lenA at h
  split at h
  · rename_i hu; cases hx; cases h; exact ⟨_, by simp [Builtin.len_, hA0, hB0, run_underlying hu, goInt], .int _ _⟩
  · rename_i hu; cases h; exact ⟨_, by simp [Builtin.len_, hA0, hB0, run_underlying hu, goInt], .int _ _⟩
  · rename_i hu; cases h; cases hx <;> exact ⟨_, by simp [Builtin.len_, hA0, hB0, run_underlying hu, goInt], .int _ _⟩
  · rename_i hu; cases hx; cases h; exact ⟨_, by simp [Builtin.len_, hA0, hB0, run_underlying hu, goInt], .int _ _⟩
  · rename_i r hu
    split at h
    · rename_i es hg
      cases h
      cases hx with
      | map _ im hφ =>
        obtain ⟨im', e1, e2⟩ := H.obj _ _ hg
        rw [hφ] at e1; cases e1
        obtain ⟨es', clock, hob, hsz, _⟩ := e2
        refine ⟨.int .i64 es'.size, ?_, by rw [hsz]; exact .int _ _⟩
        simp [Builtin.len_, hA0, hB0, run_underlying hu, goInt, getObj, Sem.run, hob]
    · cases h
  · cases h

/-! ### Maps -/
theorem sameNow_rel {kind : TypeDesc} {k k' x x' : Value} {b : Bool} (hk : VR φ k k') (hx : VR φ x x') (h : Instr.sameNow kind k x = some b) : Instr.sameNow kind k' x' = some b := by
  unfold Instr.sameNow at h
  split at h
  · cases hk; cases hx; exact h
  · cases hk; cases hx; exact h
  · cases hk; cases hx; exact h
  · cases h

theorem sameNow_bits {kind : TypeDesc} {k x : Value} (h : Instr.sameNow kind k x = some true) : Instr.sameBits 10000 x k = true := by
  unfold Instr.sameNow at h
  split at h
  · split at h
    · rename_i hk; subst hk; simp at h; subst h; simp [Instr.sameBits]
    · cases h
  · simp only [Option.some.injEq] at h
    simp only [Instr.sameBits]
    rw [beq_toListBytes] at h ⊢
    simp only [beq_iff_eq] at h ⊢; exact h.symm
  · simp at h; subst h; simp [Instr.sameBits]
  · cases h

theorem findA_rel {kind : TypeDesc} {k k' : Value} (hk : VR φ k k') : ∀ (es : List (Value × Value)) (es' : List MapEntry) (i : Nat) (r : Option (Nat × Value)), es'.length = es.length →
    (∀ (j : Nat) (a b : Value), es[j]? = some (a, b) → ∃ e : MapEntry, es'[j]? = some e ∧ VR φ a e.key ∧ VR φ b e.val) → findA kind k es i = some r →
    (r = none ∧ Instr.findNow kind k' es' i = some none) ∨ ∃ (j : Nat) (v v' : Value) (e : MapEntry), r = some (i + j, v) ∧ Instr.findNow kind k' es' i = some (some (i + j, v')) ∧ VR φ v v' ∧ es'[j]? = some e ∧
      Instr.sameNow kind k' e.key = some true ∧ j < es.length := by
  intro es
  induction es with
  | nil =>
    intro es' i r hl hr h
    have : es' = [] := List.length_eq_zero_iff.1 hl
    subst this
    simp only [findA, Option.some.injEq] at h; exact Or.inl ⟨h.symm, rfl⟩
  | cons e es ih =>
    intro es' i r hl hr h
    cases es' with
    | nil => simp at hl
    | cons e' es' =>
      obtain ⟨a, b⟩ := e
      obtain ⟨e0, h0, ha, hb⟩ := hr 0 a b rfl
      simp only [List.getElem?_cons_zero, Option.some.injEq] at h0; subst h0
      simp only [findA] at h
      simp only [Instr.findNow]
      split at h
      · rename_i hs
        cases h
        have := sameNow_rel hk ha hs
        rw [this]
        exact Or.inr ⟨0, b, _, e', by simp, by simp, hb, rfl, this, by simp⟩
      · rename_i hs
        have := sameNow_rel hk ha hs
        rw [this]
        rcases ih es' (i + 1) r (by simpa using hl) (fun j a b hj => hr (j + 1) a b hj) h with ⟨h1, h2⟩ | ⟨j, v, v', e1, h1, h2, h3, h4, h5, h6⟩
        · exact Or.inl ⟨h1, h2⟩
        · exact Or.inr ⟨j + 1, v, v', e1, by rw [h1, show i + 1 + j = i + (j + 1) by omega], by rw [h2, show i + 1 + j = i + (j + 1) by omega], h3, h4, h5, by simp only [List.length_cons]; omega⟩
      · cases h

theorem checkKey_run {e : Bool} {kt : TypeId} {kind : TypeDesc} {k : Value} (hu : P.underlying kt = some kind) (hk : keyOk kind = true) (n : Nat) : (Instr.checkKey e (n + 1) kt k).run P w = .ok () w := by
  unfold Instr.checkKey
  simp only [Sem.run_bind, run_underlying hu, Result.andThen_ok]
  cases kind <;> first | (simp [keyOk] at hk; done) | rfl

theorem lookupA_sound (H : HR P φ s w) {t : TypeId} {x x' k k' v : Value} {ok : Bool} (hx : VR φ x x') (hk : VR φ k k') (h : lookupA P t x k ok s = some v) :
    ∃ v', (Instr.lookup t x' k' ok).run P w = .ok v' w ∧ VR φ v v' := by
  unfold lookupA at h
  cases hm : mapA P t with
  | none => rw [hm] at h; cases h
  | some ke =>
  obtain ⟨kt, et⟩ := ke
  rw [hm] at h; simp only [Option.bind_some] at h
  have hu := mapA_und hm
  cases hku : P.underlying kt with
  | none => rw [hku] at h; cases h
  | some kind =>
  rw [hku] at h; simp only [Option.bind_some] at h
  split at h
  · rename_i hko
    have hck := fun (e : Bool) => checkKey_run (P := P) (w := w) (e := e) (k := k') hku hko 9999
    have absent : ∀ z, zeroA P et = some z → v = (if ok then .tuple #[z, .bool false] else z) → VR φ v (if ok then .tuple #[z, .bool false] else z) := fun z hz hv => by
      obtain ⟨_, hp⟩ := zeroA_run hz w
      subst hv
      cases ok with
      | true => exact VR.plain 5 _ (by simp only [if_true]; show plainN 5 (.tuple #[z, .bool false]) = true; simp only [plainN]; simp [hp, plainN])
      | false => exact VR.plain 4 _ hp
    split at h
    · cases hx
      cases hz : zeroA P et with
      | none => rw [hz] at h; cases h
      | some z =>
        rw [hz] at h; simp only [Option.map_some, Option.some.injEq] at h
        refine ⟨_, ?_, absent z hz h.symm⟩
        simp only [Instr.lookup, Sem.run_bind, run_underlying hu, Result.andThen_ok, Sem.run_pure, hck, Instr.findKey, run_underlying hku, Instr.findNow, (zeroA_run hz w).1]
    · rename_i r
      split at h
      · rename_i es hg
        cases hx with
        | map _ im hφ =>
        obtain ⟨im', e1, e2⟩ := H.obj _ _ hg
        rw [hφ] at e1; cases e1
        obtain ⟨es', clock, hob, hsz, hes⟩ := e2
        have hgo : (getObj im.blk).run P w = .ok (.map es' clock) w := by simp [getObj, Sem.run, hob]
        cases hfa : findA kind k es 0 with
        | none => rw [hfa] at h; cases h
        | some r0 =>
        rw [hfa] at h; simp only [Option.bind_some] at h
        rcases findA_rel hk es es'.toList 0 r0 (by simpa using hsz) (fun j a b hj => by obtain ⟨e, q1, q2⟩ := hes j a b hj; exact ⟨e, by simpa using q1, q2⟩) hfa with ⟨rfl, h2⟩ | ⟨j, v1, v', e, rfl, h2, h3, _⟩
        · simp only at h
          cases hz : zeroA P et with
          | none => rw [hz] at h; cases h
          | some z =>
            rw [hz] at h; simp only [Option.map_some, Option.some.injEq] at h
            refine ⟨_, ?_, absent z hz h.symm⟩
            simp only [Instr.lookup, Sem.run_bind, run_underlying hu, Result.andThen_ok, Sem.run_pure, hgo, hck, Instr.findKey, run_underlying hku, h2, (zeroA_run hz w).1]
        · simp only [Option.some.injEq] at h
          subst h
          refine ⟨if ok then .tuple #[v', .bool true] else v', ?_, ?_⟩
          · simp only [Instr.lookup, Sem.run_bind, run_underlying hu, Result.andThen_ok, Sem.run_pure, hgo, hck, Instr.findKey, run_underlying hku, h2]
          · cases ok with
            | true => exact VR.tuple' (xs := [v1, .bool true]) (ys := [v', .bool true]) (LR.cons h3 (LR.cons (.bool true) (LR.nil φ)))
            | false => exact h3
      · cases h
    · cases h
  · cases h

theorem mapUpdateA_sound (H : HR P φ s w) {t : TypeId} {m m' k k' v v' : Value} {s' : HS} (hm : VR φ m m') (hk : VR φ k k') (hv : VR φ v v') (h : mapUpdateA P lk t m k v s = some s') :
    ∃ w', (Instr.mapUpdate t m' k' v').run P w = .ok () w' ∧ Post P φ lk s w φ s' w' := by
  unfold mapUpdateA at h
  cases hma : mapA P t with
  | none => rw [hma] at h; cases h
  | some ke =>
  obtain ⟨kt, et⟩ := ke
  rw [hma] at h; simp only [Option.bind_some] at h
  have hu := mapA_und hma
  cases hku : P.underlying kt with
  | none => rw [hku] at h; cases h
  | some kind =>
  rw [hku] at h; simp only [Option.bind_some] at h
  split at h
  · rename_i hko
    have hck := checkKey_run (P := P) (w := w) (e := false) (k := k') hku hko 9999
    split at h
    · rename_i r
      split at h
      · rename_i hlk
        split at h
        · rename_i es hg
          cases hm with
          | map _ im hφ =>
          obtain ⟨im', e1, e2⟩ := H.obj _ _ hg
          rw [hφ] at e1; cases e1
          obtain ⟨es', clock, hob, hsz, hes⟩ := e2
          have hgo : (getObj im.blk).run P w = .ok (.map es' clock) w := by simp [getObj, Sem.run, hob]
          have hso : ∀ o, (setObj im.blk o).run P w = .ok () (setB w im.blk o) := fun o => by simp [setObj, Sem.run, hob, setB]
          cases hfa : findA kind k es 0 with
          | none => rw [hfa] at h; cases h
          | some r0 =>
          rw [hfa] at h; simp only [Option.bind_some] at h
          rcases findA_rel hk es es'.toList 0 r0 (by simpa using hsz) (fun j a b hj => by obtain ⟨e, q1, q2⟩ := hes j a b hj; exact ⟨e, by simpa using q1, q2⟩) hfa with ⟨rfl, h2⟩ | ⟨j, v1, v2, e, rfl, h2, h3, h4, h5, h6⟩
          · simp only [Option.some.injEq] at h
            subst h
            refine ⟨_, ?_, Post.set (o := .map (es ++ [(k, v)])) (ob := .map (es'.push { key := k', val := v', born := clock }) (clock + 1)) H hlk hg rfl hφ ⟨es'.push { key := k', val := v', born := clock }, clock + 1, rfl, by simp [hsz], fun j a b hj => ?_⟩ (fun L h => by cases h)⟩
            · simp only [Instr.mapUpdate, Sem.run_bind, run_underlying hu, Result.andThen_ok, hgo, hck, Instr.findKey, run_underlying hku, h2, Sem.run_pure, hso]
            · by_cases hj1 : j < es.length
              · rw [List.getElem?_append_left hj1] at hj
                obtain ⟨e, q1, q2⟩ := hes j a b hj
                exact ⟨e, by rw [Array.getElem?_push, if_neg (by omega)]; exact q1, q2⟩
              · rw [List.getElem?_append_right (by omega)] at hj
                have hj0 : j = es.length := by
                  have := (List.getElem?_eq_some_iff.1 hj).1; simp at this; omega
                subst hj0
                simp only [Nat.sub_self, List.getElem?_cons_zero, Option.some.injEq] at hj; cases hj
                exact ⟨_, by rw [Array.getElem?_push, if_pos hsz.symm], hk, hv⟩
          · simp only [Nat.zero_add, Option.some.injEq] at h
            subst h
            have he : es'[j]? = some e := by simpa using h4
            have hst : (Instr.keyThatStays (((es'[j]?).map (·.key)).getD k') k').run P w = .ok k' w := by
              simp [Instr.keyThatStays, he, sameNow_bits h5]
            refine ⟨_, ?_, Post.set (o := .map (es.set j (k, v))) (ob := .map (es'.modify j fun e => { e with key := k', val := v' }) clock) H hlk hg rfl hφ ⟨es'.modify j fun e => { e with key := k', val := v' }, clock, rfl, by simp [hsz], fun i a b hj => ?_⟩ (fun L h => by cases h)⟩
            · simp only [Nat.zero_add] at h2
              simp only [Instr.mapUpdate, Sem.run_bind, run_underlying hu, Result.andThen_ok, hgo, hck, Instr.findKey, run_underlying hku, h2, Sem.run_pure, hst, hso]
            · by_cases hij : j = i
              · subst hij
                rw [List.getElem?_set_self h6] at hj; cases hj
                exact ⟨{ e with key := k', val := v' }, by rw [Array.getElem?_modify, if_pos rfl, he]; rfl, hk, hv⟩
              · rw [List.getElem?_set_ne hij] at hj
                obtain ⟨e2, q1, q2⟩ := hes i a b hj
                exact ⟨e2, by rw [Array.getElem?_modify, if_neg hij]; exact q1, q2⟩
        · cases h
      · cases h
    · cases h
  · cases h

theorem makeMap_sound (H : HR P φ s w) (hlk : lk ≤ s.nx) (hf : φ s.nx = none) (t : TypeId) :
    ∃ v' φ' w', (Instr.makeMap t none).run P w = .ok v' w' ∧ VR φ' (.map (some s.nx)) v' ∧ Post P φ lk s w φ' { hp := s.hp.put s.nx (some (.map [])), nx := s.nx + 1 } w' := by
  refine ⟨.map (some w.heap.size), _, _, ?_, .map s.nx ⟨w.heap.size, 0, 0, 0⟩ (addI_self φ s.nx _), Post.new H hlk hf (o := .map []) (ob := .map #[] 0) rfl ⟨#[], 0, rfl, rfl, fun i k v h => by simp at h⟩⟩
  simp [Instr.makeMap]

end Go.Ev
