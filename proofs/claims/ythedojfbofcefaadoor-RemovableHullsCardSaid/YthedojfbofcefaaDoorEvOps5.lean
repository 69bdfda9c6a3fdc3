/- The operations, one by one: append, copy, clear, make, len, maps. -/
import Derived.Test.YthedojfbofcefaaDoorEvOps4
namespace Go.Ev
open Go
variable {P : Program} {φ : Inj} {lk : Nat} {s : HS} {w : World}

theorem lt_UNK {n : Nat} (h : n ≤ 18446744073709551616) : n < UNK := by unfold UNK; omega

theorem lenV_run {y y' : Value} {n : Nat} (hy : VR φ y y') (h : lenV y = some n) (w : World) : (Builtin.lenOf y').run P w = .ok n w := by
  unfold lenV at h
  split at h
  · cases h; cases hy <;> rfl
  · cases h; cases hy; rfl
  · cases h

theorem firstA_sound (H : HR P φ s w) {y y' : Value} {size n m : Nat} {new : List Value} (hy : VR φ y y') (hm : lenV y = some m) (hnm : n ≤ m) (h : firstA s.hp size n y = some new) :
    ∃ new', LR φ new new' ∧ new.length = n * size ∧ ∀ w₂ : World, w₂.heap = w.heap → (Builtin.firstCells size n y').run P w₂ = .ok new'.toArray w₂ := by
  unfold firstA at h
  split at h
  · rename_i a l c
    have hlen := (readA_inv h).2
    obtain ⟨_, _, _, _, hc⟩ := hlen
    have hnl := cutL_length hc
    have key : ∀ im off id, φ id = some im → a = ⟨id, off, none⟩ → ∃ new', LR φ new new' ∧ new.length = n * size ∧
        ∀ w₂ : World, w₂.heap = w.heap → (loadCells ⟨im.blk, im.sh + off, none⟩ (n * size)).run P w₂ = .ok new'.toArray w₂ := fun im off id hφ e => by
      subst e
      obtain ⟨vs', h1, h2, h3⟩ := readA_sound H h hφ
      refine ⟨vs', h1, hnl, fun w₂ hw => ?_⟩
      have := run_load_row P w₂ im.blk (im.sh + off) vs' (fun j v hj => by
        have := h3 j v hj
        simp only [World.cell?, hw] at this ⊢; exact this)
      rwa [h2] at this
    cases hy with
    | slice id off _ _ im hφ hc' => exact key im off id hφ rfl
    | sliceU id off _ _ cap' im hφ hc' h1 h2 h3 => exact key im off id hφ rfl
    | sliceE id off o' im hφ =>
      simp only [lenV, Option.some.injEq] at hm
      have hn : n = 0 := by omega
      subst hn
      simp only [Nat.zero_mul] at hnl
      have : new = [] := List.length_eq_zero_iff.1 hnl
      subst this
      exact ⟨[], LR.nil φ, by simp, fun w₂ _ => by simp [Builtin.firstCells, loadCells, loadCellsFrom]⟩
  · cases hy
    split at h
    · rename_i hn
      subst hn; cases h
      exact ⟨[], LR.nil φ, by simp, fun w₂ _ => by simp [Builtin.firstCells]⟩
    · cases h
  · rename_i st
    cases hy
    split at h
    · rename_i hc
      obtain ⟨rfl, hns⟩ := hc
      cases h
      refine ⟨(st.extract 0 n).data.toList.map fun b => Value.int .u8 b.toNat, ⟨rfl, fun i v v' a b => ?_⟩, ?_, fun w₂ _ => ?_⟩
      · rw [a] at b; cases b
        simp only [List.getElem?_map, Option.map_eq_some_iff] at a
        obtain ⟨x, _, rfl⟩ := a; exact .int _ _
      · have : (st.extract 0 n).size = n := by rw [ByteArray.size_extract]; omega
        have h2 : (st.extract 0 n).data.toList.length = n := this
        rw [List.length_map, h2]; omega
      · simp only [Builtin.firstCells, Sem.run_pure]
        congr 1
        apply Array.ext'; simp
    · cases h
  · cases h

/-- append in the room that there is. -/
theorem run_append_in {A : Array TypeId} {B : Array Value} {t u e ty : TypeId} {d : TypeDesc} {i : TypeInfo} {base : Option Addr} {len cap n : Nat} {y : Value} {new : List Value} {w' : World}
    (hA0 : A[0]? = some t) (hA1 : A[1]? = some u) (hB0 : B[0]? = some (.slice base len cap)) (hB1 : B[1]? = some y) (hu : P.underlying t = some (.slice e)) (hu' : P.underlying u = some d) (hd : ∀ k, d ≠ .int k)
    (hi : P.info? e = some i) (hn : (Builtin.lenOf y).run P w = .ok n w) (hfit : len + n ≤ cap) (hnew : (Builtin.firstCells i.size n y).run P w = .ok new.toArray w)
    (hst : (match base with | some a => storeCells (a.add (len * i.size)) new | none => pure () : Sem Unit).run P w = .ok () w') :
    (Builtin.append_ A ty B).run P w = .ok (.slice base (len + n) cap) w' := by
  unfold Builtin.append_
  simp only [hA0, hA1, hB0, hB1, Sem.run_bind, run_underlying hu, run_underlying hu', Result.andThen_ok, sizeOf, typeInfo, run_program, hi, Sem.run_pure, Bool.false_eq_true, if_false, hn, hfit, if_true, Bool.not_false, hnew]
  cases base with
  | none => simp only [Sem.run_pure, Result.ok.injEq, true_and] at hst; subst hst; rfl
  | some a => simp only at hst ⊢; simp [hst]

/-- append to a new row. -/
theorem run_append_out {A : Array TypeId} {B : Array Value} {t u e ty : TypeId} {d : TypeDesc} {i : TypeInfo} {z : Value} {base : Option Addr} {len cap n : Nat} {y : Value} {old new : List Value}
    (hA0 : A[0]? = some t) (hA1 : A[1]? = some u) (hB0 : B[0]? = some (.slice base len cap)) (hB1 : B[1]? = some y) (hu : P.underlying t = some (.slice e)) (hu' : P.underlying u = some d) (hd : ∀ k, d ≠ .int k)
    (hi : P.info? e = some i) (hz : i.zero = some z) (hn : (Builtin.lenOf y).run P w = .ok n w) (hgt : cap < len + n) (hb : (len + n) * (i.bytes + i.size) ≤ 1099511627776) (hs : i.size ≠ 0)
    (hold : (Builtin.firstCells i.size len (.slice base len cap)).run P w.drew = .ok old.toArray w.drew) (hnew : (Builtin.firstCells i.size n y).run P w.drew = .ok new.toArray w.drew) :
    (Builtin.append_ A ty B).run P w = .ok (.slice (some ⟨w.heap.size, 0, none⟩) (len + n) (grownCap w (len + n) cap e))
      (w.drew.alloc (.cells (old.toArray ++ new.toArray ++ Builtin.zeroCells z.cells (grownCap w (len + n) cap e - (len + n))) e)) := by
  have hfit : ¬ (len + n ≤ cap) := by omega
  have hm1 : (len + n) * 1 ≤ (len + n) * (i.bytes + i.size) := Nat.mul_le_mul_left _ (by omega)
  have hm2 : (len + n) * i.bytes ≤ (len + n) * (i.bytes + i.size) := Nat.mul_le_mul_left _ (by omega)
  have h63 : ¬ (((len + n : Nat) : Int) > IntKind.i64.max ∧ (false = true ∨ i.bytes = 0)) := by
    have : IntKind.i64.max = 9223372036854775807 := by decide
    rw [this]; omega
  have h48 : ¬ (Builtin.nextslicecap (len + n) cap * i.bytes > 2 ^ 48) := by
    have := growslice_fits (need := len + n) (old := cap) (bytes := i.bytes) (by omega) (by omega)
    omega
  unfold Builtin.append_
  simp only [hA0, hA1, hB0, hB1, Sem.run_bind, run_underlying hu, run_underlying hu', Result.andThen_ok, sizeOf, typeInfo, run_program, hi, Sem.run_pure, Bool.false_eq_true, if_false, hn, hfit, Bool.not_false, if_true]
  simp only [Bool.false_eq_true] at h63
  rw [if_neg h63]
  simp only [Sem.run_bind, Result.andThen_ok, run_program, hi, Sem.run_pure]
  rw [if_neg h48]
  have hc : (choose (.appendCap (len + n) cap e)).run P w = .ok (grownCap w (len + n) cap e) w.drew := by
    simp [Question.forced, grownCap]
  simp only [hc, Result.andThen_ok, run_askRoom, hold, hnew, zeroValue, Sem.run_bind, typeInfo, run_program, hi, hz, Sem.run_pure, newRow, run_newObj]
  rfl

theorem info_all {e : TypeId} {size by_ : Nat} {z : Value} (hs : szA P e = some size) (hb : bytesA P e = some by_) (hz : zeroA P e = some z) :
    ∃ i : TypeInfo, P.info? e = some i ∧ i.size = size ∧ i.bytes = by_ ∧ i.zero = some z ∧ plainN 4 z = true := by
  unfold szA at hs; unfold bytesA at hb; unfold zeroA at hz
  cases hi : P.info? e with
  | none => rw [hi] at hs; cases hs
  | some i =>
    rw [hi] at hs hb hz
    cases hs; cases hb
    simp only [Option.bind_some] at hz
    cases hzz : i.zero with
    | none => rw [hzz] at hz; cases hz
    | some v =>
      rw [hzz] at hz
      simp only [Option.bind_some] at hz
      cases hp : plainN 4 v with
      | false => rw [hp] at hz; cases hz
      | true => rw [hp] at hz; cases hz; exact ⟨i, rfl, rfl, rfl, hzz, hp⟩

theorem grownCap_ge (w : World) (need old : Nat) (e : TypeId) : need ≤ grownCap w need old e := by
  unfold grownCap; simp only [Question.cut]; omega

/-- A new row for what is appended. -/
theorem newRow_sound (H : HR P φ s w) (hlk : lk ≤ s.nx) (hf : φ s.nx = none) {e : TypeId} {size need cap : Nat} (hz : szA P e = some size) {cs ds : List Value} (hr : LR φ cs ds)
    (hn : cs.length = need * size) (z : Array Value) (hzs : z.size = size) (hcap : need ≤ cap) :
    ∃ φ', VR φ' (.slice (some ⟨s.nx, 0, none⟩) need (UNK + need)) (.slice (some ⟨w.heap.size, 0, none⟩) need cap) ∧
      Post P φ lk s w φ' (newA s e cs).2 (w.drew.alloc (.cells (ds.toArray ++ Builtin.zeroCells z (cap - need)) e)) := by
  have H1 : HR P φ s w.drew := H.same rfl
  have hsz : (Builtin.zeroCells z (cap - need)).size = (cap - need) * size := by rw [size_zeroCells, hzs]
  have hds : ds.length = need * size := by rw [← hr.1]; exact hn
  have htot : need * size + (cap - need) * size = cap * size := by rw [← Nat.add_mul]; congr 1; omega
  refine ⟨addI φ s.nx ⟨w.heap.size, 0, cap * size, size⟩, .sliceU s.nx 0 _ _ _ _ (addI_self φ s.nx _) (by omega) (by omega) hcap (by simp), ?_⟩
  refine (Post.same (w' := w.drew) H rfl rfl rfl rfl).trans (Post.new (o := .cells true e cs) (im := ⟨w.heap.size, 0, cap * size, size⟩)
    (ob := .cells (ds.toArray ++ Builtin.zeroCells z (cap - need)) e) H1 hlk hf rfl ?_)
  refine ⟨hz, ds.toArray ++ Builtin.zeroCells z (cap - need), (0, 0), rfl, by simp [hsz, hds]; omega, ?_, fun i v hi => ?_, fun _ j _ h => by omega⟩
  · rw [hn]; exact Nat.mul_le_mul_right _ hcap
  · obtain ⟨v', h1, h2⟩ := hr.get hi
    refine ⟨v', ?_, h2.mono (addI_sub hf)⟩
    have hlt := (List.getElem?_eq_some_iff.1 h1).1
    rw [Nat.zero_add, Array.getElem?_append_left (by simpa using hlt)]
    simpa using h1

theorem appendA_sound (H : HR P φ s w) (hlk : lk ≤ s.nx) {t u ty : TypeId} {d : TypeDesc} {A : Array TypeId} {B : Array Value} {x x' y y' v : Value} {s' : HS} (hfr : Fresh φ s.nx s'.nx)
    (hx : VR φ x x') (hy : VR φ y y') (hA0 : A[0]? = some t) (hA1 : A[1]? = some u) (hB0 : B[0]? = some x') (hB1 : B[1]? = some y') (hu' : P.underlying u = some d) (hd : ∀ k, d ≠ .int k)
    (h : appendA P lk t x y s = some (v, s')) : ∃ v' φ' w', (Builtin.append_ A ty B).run P w = .ok v' w' ∧ VR φ' v v' ∧ Post P φ lk s w φ' s' w' := by
  unfold appendA at h
  split at h
  · rename_i base len cap
    cases he : elemA P t with
    | none => rw [he] at h; cases h
    | some e =>
    rw [he] at h; simp only [Option.bind_some] at h
    cases hs : szA P e with
    | none => rw [hs] at h; cases h
    | some size =>
    rw [hs] at h; simp only [Option.bind_some] at h
    cases hb : bytesA P e with
    | none => rw [hb] at h; cases h
    | some by_ =>
    rw [hb] at h; simp only [Option.bind_some] at h
    cases hz : zeroA P e with
    | none => rw [hz] at h; cases h
    | some z =>
    rw [hz] at h; simp only [Option.bind_some] at h
    cases hn : lenV y with
    | none => rw [hn] at h; cases h
    | some n =>
    rw [hn] at h; simp only [Option.bind_some] at h
    obtain ⟨i, hi, rfl, rfl, hiz, hzp⟩ := info_all hs hb hz
    have hu := elemA_und he
    have hnr := lenV_run (P := P) hy hn w
    split at h
    · cases h
    · rename_i hc
      simp only [not_or] at hc
      obtain ⟨hs0, hzl, hbd⟩ := hc
      simp only [Decidable.not_not] at hzl hbd
      have hzsz : z.cells.size = i.size := by simpa using hzl
      split at h
      · -- nothing is appended
        rename_i hn0
        subst hn0
        split at h
        · rename_i hcap
          cases h
          have hf0 : (Builtin.firstCells i.size 0 y').run P w = .ok ([] : List Value).toArray w := by
            cases hy <;> first
              | (simp only [lenV] at hn; cases hn; done)
              | (simp [Builtin.firstCells, loadCells, loadCellsFrom]; done)
              | (simp [lenV] at hn; done)
          have main : ∀ (b : Option Addr) (c : Nat), len ≤ c → B[0]? = some (.slice b len c) → (Builtin.append_ A ty B).run P w = .ok (.slice b len c) w := fun b c hlc hB => by
            have := run_append_in (P := P) (w := w) (ty := ty) hA0 hA1 hB hB1 hu hu' hd hi hnr (new := []) (w' := w) (by omega) hf0 (by cases b <;> rfl)
            simpa using this
          cases hx with
          | nilslice =>
            rcases hcap with ⟨h1, h2⟩ | ⟨h1, h2⟩
            · exact ⟨_, φ, w, main none cap h2 hB0, .nilslice _ _, Post.refl H⟩
            · cases h2
          | slice id off _ _ im hφ hcu => exact ⟨_, φ, w, main _ cap (by omega) hB0, .slice id off _ _ im hφ hcu, Post.refl H⟩
          | sliceU id off _ _ cap' im hφ hcu k1 k2 k3 => exact ⟨_, φ, w, main _ cap' k2 hB0, .sliceU id off _ _ cap' im hφ hcu k1 k2 k3, Post.refl H⟩
          | sliceE id off o' im hφ => exact ⟨_, φ, w, main _ 0 (by omega) hB0, .sliceE id off o' im hφ, Post.refl H⟩
        · cases h
      · rename_i hn0
        cases hfa : firstA s.hp i.size n y with
        | none => rw [hfa] at h; cases h
        | some new =>
        rw [hfa] at h; simp only [Option.bind_some] at h
        obtain ⟨new', hnew, hnl, hnrun⟩ := firstA_sound H hy hn (Nat.le_refl _) hfa
        split at h
        · -- nil
          split at h
          · rename_i hc
            obtain ⟨rfl, rfl⟩ := hc
            cases h
            cases hx
            have hf : φ s.nx = none := hfr s.nx (Nat.le_refl _) (Nat.lt_succ_self _)
            have hrun := run_append_out (P := P) (w := w) (ty := ty) hA0 hA1 hB0 hB1 hu hu' hd hi hiz hnr (old := []) (new := new') (by omega) hbd hs0 (by simp [Builtin.firstCells]) (hnrun w.drew rfl)
            obtain ⟨φ', hv, hp⟩ := newRow_sound (lk := lk) H hlk hf hs hnew hnl z.cells hzsz (grownCap_ge w n 0 e)
            simp only [Nat.zero_add] at hrun
            refine ⟨_, φ', _, hrun, hv, ?_⟩
            simpa using hp
          · cases h
        · rename_i a
          split at h
          · rename_i hcu
            cases hx with
            | sliceU id off _ _ cap' im hφ hcu' k1 k2 k3 => omega
            | sliceE id off o' im hφ => omega
            | slice id off _ _ im hφ _ =>
              split at h
              · -- room that is known
                rename_i hfit
                cases hwa : writeA lk s.hp ⟨id, off + len * i.size, none⟩ new with
                | none => rw [hwa] at h; cases h
                | some h' =>
                rw [hwa] at h; cases h
                obtain ⟨w', hst, hp⟩ := writeA_sound H (a := ⟨id, off + len * i.size, none⟩) hφ hnew hwa
                refine ⟨_, φ, w', run_append_in (P := P) (w := w) hA0 hA1 hB0 hB1 hu hu' hd hi hnr hfit (hnrun w rfl) ?_, .slice id off _ _ im hφ hcu, hp⟩
                simp only [addr_add]
                rw [Nat.add_assoc]; exact hst
              · rename_i hfit
                cases hfo : firstA s.hp i.size len (.slice (some ⟨id, off, none⟩) len cap) with
                | none => rw [hfo] at h; cases h
                | some old =>
                rw [hfo] at h; cases h
                obtain ⟨old', hold, hol, horun⟩ := firstA_sound H (.slice id off len cap im hφ hcu) rfl (Nat.le_refl _) hfo
                have hf : φ s.nx = none := hfr s.nx (Nat.le_refl _) (Nat.lt_succ_self _)
                have hrun := run_append_out (P := P) (w := w) (ty := ty) hA0 hA1 hB0 hB1 hu hu' hd hi hiz hnr (by omega) hbd hs0 (horun w.drew rfl) (hnrun w.drew rfl)
                obtain ⟨φ', hv, hp⟩ := newRow_sound (lk := lk) H hlk hf hs (hold.append hnew) (by rw [List.length_append, hol, hnl, Nat.add_mul]) z.cells hzsz (grownCap_ge w (len + n) cap e)
                refine ⟨_, φ', _, hrun, hv, ?_⟩
                have e1 : old'.toArray ++ new'.toArray = (old' ++ new').toArray := by simp
                rw [e1]; exact hp
          · rename_i hcu
            split at h
            · -- room that is sure
              rename_i hfit
              cases hx with
              | slice id off _ _ im hφ hcu' => omega
              | sliceE id off o' im hφ => omega
              | sliceU id off _ _ cap' im hφ hcu' k1 k2 k3 =>
                cases hwa : writeA lk s.hp ⟨id, off + len * i.size, none⟩ new with
                | none => rw [hwa] at h; cases h
                | some h' =>
                rw [hwa] at h; cases h
                obtain ⟨w', hst, hp⟩ := writeA_sound H (a := ⟨id, off + len * i.size, none⟩) hφ hnew hwa
                refine ⟨_, φ, w', run_append_in (P := P) (w := w) hA0 hA1 hB0 hB1 hu hu' hd hi hnr (by omega) (hnrun w rfl) ?_, .sliceU id off _ _ cap' im hφ hcu' k1 (by omega) k3, hp⟩
                simp only [addr_add]
                rw [Nat.add_assoc]; exact hst
            · -- either
              rename_i hfit
              cases hfo : firstA s.hp i.size len (.slice (some a) len cap) with
              | none => rw [hfo] at h; cases h
              | some old =>
              rw [hfo] at h; simp only [Option.bind_some] at h
              obtain ⟨old', hold, hol, horun⟩ := firstA_sound H hx rfl (Nat.le_refl _) hfo
              have hlen : (old ++ new).length = (len + n) * i.size := by rw [List.length_append, hol, hnl, Nat.add_mul]
              split at h
              · rename_i e' cs hg
                split at h
                · rename_i hc
                  obtain ⟨hlka, rfl, hone⟩ := hc
                  cases h
                  have hf : φ s.nx = none := hfr s.nx (Nat.le_refl _) (Nat.lt_succ_self _)
                  have out : ∀ (b : Option Addr) (c : Nat), c < len + n → B[0]? = some (.slice b len c) → VR φ (.slice (some a) len cap) (.slice b len c) →
                      ∃ v' φ' w', (Builtin.append_ A ty B).run P w = .ok v' w' ∧ VR φ' (.slice (some ⟨s.nx, 0, none⟩) (len + n) (UNK + (len + n))) v' ∧
                        Post P φ lk s w φ' { hp := (s.hp.put a.block none).put s.nx (some (.cells true e' (old ++ new))), nx := s.nx + 1 } w' := fun b c hlt hB hvr => by
                    obtain ⟨old2, hold2, hol2, horun2⟩ := firstA_sound H hvr rfl (Nat.le_refl _) hfo
                    have hrun := run_append_out (P := P) (w := w) (ty := ty) hA0 hA1 hB hB1 hu hu' hd hi hiz hnr hlt hbd hs0 (horun2 w.drew rfl) (hnrun w.drew rfl)
                    have hdel := Post.del (lk := lk) H hlka (fun L h => by rw [hg] at h; cases h)
                    have H1 : HR P φ { s with hp := s.hp.put a.block none } w := H.del a.block
                    obtain ⟨φ', hv, hp⟩ := newRow_sound (lk := lk) H1 hlk hf hs (hold2.append hnew) hlen z.cells hzsz (grownCap_ge w (len + n) c e')
                    refine ⟨_, φ', _, hrun, hv, hdel.trans ?_⟩
                    have e1 : old2.toArray ++ new'.toArray = (old2 ++ new').toArray := by simp
                    rw [e1]; exact hp
                  cases hx with
                  | slice id off _ _ im hφ hcu' => omega
                  | sliceE id off o' im hφ => exact out _ 0 (by omega) hB0 (.sliceE id off o' im hφ)
                  | sliceU id off _ _ cap' im hφ hcu' k1 k2 k3 =>
                    by_cases hr : len + n ≤ cap'
                    · -- in place
                      obtain ⟨im', e1, e2⟩ := H.obj _ _ hg
                      rw [hφ] at e1; cases e1
                      obtain ⟨hz2, c, fz, hob, hsz, hle, hcs, hfz⟩ := e2
                      have hes : im.esz = i.size := by rw [hs] at hz2; exact (Option.some.inj hz2).symm
                      have hspace : off + (len + n) * i.size ≤ im.ext := by
                        have : (len + n) * i.size ≤ cap' * i.size := Nat.mul_le_mul_right _ hr
                        rw [hes] at k3; omega
                      have hnl' := hnew.1
                      have hsplit : (len + n) * i.size = len * i.size + n * i.size := Nat.add_mul _ _ _
                      obtain ⟨c', hrun, hs', ha, hb', hc⟩ := run_store_row P im.blk (im.sh + off + len * i.size) e' fz new' 0 w c hob (by omega) (hnew.one hone) (fun j j1 _ => hfz rfl j (by omega))
                      have hin := run_append_in (P := P) (w := w) (ty := ty) hA0 hA1 hB0 hB1 hu hu' hd hi hnr hr (hnrun w rfl) (w' := setB w im.blk (.cells c' e' fz)) (by simp only [addr_add]; exact hrun)
                      refine ⟨_, addI φ s.nx ⟨im.blk, im.sh + off, im.ext - off, im.esz⟩, _, hin, ?_, Post.turn (o := .cells true e' (old ++ new)) (ob := .cells c' e' fz) H hlka hg rfl (fun L h => by cases h) hφ hf rfl ⟨hz2, c', fz, rfl, by simp only; omega, ?_, fun j v hj => ?_, fun _ j h1 => hfz rfl j (by simp only at h1; omega)⟩⟩
                      · have := VR.sliceU (φ := addI φ s.nx ⟨im.blk, im.sh + off, im.ext - off, im.esz⟩) s.nx 0 (len + n) (UNK + (len + n)) cap' ⟨im.blk, im.sh + off, im.ext - off, im.esz⟩ (addI_self φ s.nx _) (by omega) (by omega) hr (by simp only; omega)
                        simp only [Nat.add_zero] at this; exact this
                      · simp only; rw [hlen]; omega
                      · simp only
                        by_cases hj1 : j < old.length
                        · rw [List.getElem?_append_left hj1] at hj
                          -- the cells that were there
                          have hcut := (readA_inv hfo).2
                          obtain ⟨wr2, e2, cs2, hg2, hcut⟩ := hcut
                          rw [hg] at hg2; cases hg2
                          obtain ⟨_, rfl⟩ := cutL_inv hcut
                          rw [getElem?_drop_take (by rw [hol] at hj1; exact hj1)] at hj
                          obtain ⟨v', q1, q2⟩ := hcs _ _ hj
                          refine ⟨v', ?_, q2.mono (addI_sub hf)⟩
                          rw [ha _ (by rw [hol] at hj1; omega), ← q1]; congr 1; simp only; omega
                        · rw [List.getElem?_append_right (by omega)] at hj
                          obtain ⟨v', q1, q2⟩ := hnew.get hj
                          refine ⟨v', ?_, q2.mono (addI_sub hf)⟩
                          have hlt := (List.getElem?_eq_some_iff.1 q1).1
                          have := hc (j - old.length) hlt
                          rw [q1] at this
                          rw [← this]; congr 1; rw [hol]; rw [hol] at hj1; omega
                    · exact out _ cap' (by omega) hB0 (.sliceU id off _ _ cap' im hφ hcu' k1 k2 k3)
                · cases h
              · cases h
  · cases h

end Go.Ev
