import Derived.Test.YthedojfbofcefaaDoorEvG15
/- graph.components. -/
namespace Go.Ev
open Go Go.Proofs
set_option linter.unusedSimpArgs false
set_option linter.unusedVariables false
set_option maxRecDepth 100000
set_option maxHeartbeats 4000000
attribute [local irreducible] wpOps wpC wpD wpF wpLoop wpCall seqK blockK loopK retK T.put T.get T.setF

theorem f62_spec' [Sorts Tryd.prog] (n : Nat) (es : List (Int × Int)) (ev : Value) (s : HS) (hs : Sl s 2 ev (es.map encE)) (hg : GoodG n es) :
    wpF Tryd.prog s.nx 62 [vG n ev] s (fun v s' => LlsE encB s' v ((List.range n).map (seenH n es))) := by
  refine (f62_spec n es ev s hs hg).mono fun v s' h => ?_
  obtain ⟨ob, vs, h1, h2, h3, h4⟩ := h
  refine ⟨vs, h2.sl, by simp; omega, fun i r l hr hl => ?_⟩
  obtain ⟨o, seen, h5, h6, h7⟩ := h4 i r hr
  have hi : i < n := by have := (List.getElem?_eq_some_iff.1 hl).1; simpa using this
  rw [List.getElem?_map, List.getElem?_range hi] at hl
  cases hl
  rw [← seen_eq hg hi h7]
  exact h6.sl

/-- The components, by their first nodes below a number. -/
def compsL (n : Nat) (es : List (Int × Int)) (k : Nat) : List (List Int) := (reps n es k).map fun r => nodesL (compN n es r) n
theorem compsL_len (n : Nat) (es : List (Int × Int)) (k : Nat) : (compsL n es k).length = (reps n es k).length := List.length_map _
/-- The number of the component of each node, of those whose first node lies below a number; -1 for the others. -/
def OfOK (n : Nat) (es : List (Int × Int)) (k : Nat) (L : List Int) : Prop := L.length = n ∧ ∀ x, x < n →
  (∀ r, r < k → isRep n es r = true → mutB n es r x = true → L[x]? = some ((reps n es r).length : Int)) ∧ ((∀ r, r < k → mutB n es r x = false) → L[x]? = some (-1))

theorem ofOK_skip {n : Nat} {es : List (Int × Int)} {k : Nat} {L : List Int} (hr : isRep n es k = false) (h : OfOK n es k L) : OfOK n es (k + 1) L := by
  refine ⟨h.1, fun x hx => ⟨fun r h1 h2 h3 => ?_, fun h1 => (h.2 x hx).2 fun r h2 => h1 r (by omega)⟩⟩
  by_cases hk : r = k
  · subst hk; rw [hr] at h2; cases h2
  · exact (h.2 x hx).1 r (by omega) h2 h3
theorem ofOK_step {n : Nat} {es : List (Int × Int)} (hg : GoodG n es) {k : Nat} {L L' : List Int} (hk : k < n) (hr : isRep n es k = true) (h : OfOK n es k L) (hl : L'.length = n) (hs : ∀ x, x < n → L'[x]? = if k ≤ x ∧ x < n ∧ mutB n es k x = true then some ((reps n es k).length : Int) else L[x]?) : OfOK n es (k + 1) L' := by
  refine ⟨hl, fun x hx => ⟨fun r h1 h2 h3 => ?_, fun h1 => ?_⟩⟩
  · rw [hs x hx]
    by_cases hk2 : r = k
    · subst hk2
      have hle : r ≤ x := Nat.le_of_not_lt fun hlt => by
        have := isRep_iff.1 hr x hlt
        rw [h3] at this; cases this
      rw [if_pos ⟨hle, hx, h3⟩]
    · rw [if_neg]
      · exact (h.2 x hx).1 r (by omega) h2 h3
      · rintro ⟨_, _, h6⟩
        exact hk2 (rep_uniq hg hx (by omega) hk h2 h3 hr h6)
  · rw [hs x hx, if_neg]
    · exact (h.2 x hx).2 fun r h2 => h1 r (by omega)
    · rintro ⟨_, _, h3⟩
      rw [h1 k (by omega)] at h3; cases h3
theorem ofOK_at {n : Nat} {es : List (Int × Int)} (hg : GoodG n es) {k : Nat} {L : List Int} (hk : k < n) (h : OfOK n es k L) : ∃ z : Int, L[k]? = some z ∧ (isRep n es k = true → z = -1) ∧ (isRep n es k = false → 0 ≤ z) := by
  by_cases hr : isRep n es k = true
  · refine ⟨-1, (h.2 k hk).2 fun r h1 => ?_, fun _ => rfl, fun h2 => by rw [hr] at h2; cases h2⟩
    rw [mut_symm]; exact isRep_iff.1 hr r h1
  · obtain ⟨r, h1, h2, h3⟩ := rep_ex hg hk
    have hlt : r < k := by
      rcases Nat.lt_or_ge r k with h4 | h4
      · exact h4
      · have : r = k := by omega
        subst this; exact absurd h2 hr
    exact ⟨_, (h.2 k hk).1 r hlt h2 h3, fun h4 => absurd h4 hr, fun _ => by omega⟩
theorem comp_start {n : Nat} {es : List (Int × Int)} {k : Nat} (hr : isRep n es k = true) : nodesL (compN n es k) k = [] := by
  refine List.eq_nil_iff_forall_not_mem.2 fun x hx => ?_
  obtain ⟨h1, h2, h3⟩ := mem_nodesL.1 hx
  rw [compN_bit] at h3
  have := isRep_iff.1 hr x.toNat (by omega)
  rw [this] at h3; simp at h3

theorem f50_spec [Sorts Tryd.prog] (n : Nat) (es : List (Int × Int)) (ev : Value) (s : HS) (hs : Sl s 2 ev (es.map encE)) (hg : GoodG n es) :
    wpF Tryd.prog s.nx 50 [vG n ev] s (fun v s' => ∃ (ov fv : Value) (L : List Int), v = .tuple #[ov, fv] ∧ LlsN s s' ov (compsL n es n) ∧ Sl s' 1 fv (L.map encI) ∧ OfOK n es n L) := by
  have hn64 : n ≤ 64 := by have := hg.hi; omega
  refine wpF_of Tryd.func50 rfl rfl rfl rfl (Nat.le_refl _) ?_
  simp only [paramsA, vG]
  repeat (first
  | with_reducible first | refine st (by constructor) ?_ | apply c_region
  | (with_reducible apply k_block_on
     · decide)
  | ((with_reducible first | apply xOp | apply xDr | apply xIf); rfl; (simp only [Nat.reduceEqDiff, Nat.reduceAdd, ↓reduceIte, xBB, stG, undef, opA, val, opdA, opdO, plainN, omap, binA, intBinA, loadV, readA, storeV, writeA, fieldAddrA, indexAddrA, lenA, builtinA, newA, unA, packA, Value.cells]; rfl); first | rfl | exact ⟨rfl, rfl, rfl⟩))
  have hA0 := Ab.new (lk := s.nx) s (.cells true 28 [.int .i64 n, ev])
  refine c_draw [⟨false, [], none⟩, ⟨false, [], none⟩, ⟨false, [], none⟩, ⟨false, [0, 1], none⟩, ⟨false, [0, 1], none⟩, ⟨false, [], none⟩, ⟨true, [], none⟩] (by kernel_rfl) ?_
  repeat (first
  | with_reducible first | refine st (by constructor) ?_ | apply c_region
  | (with_reducible apply k_block_on
     · decide)
  | ((with_reducible first | apply xOp | apply xDr | apply xIf); rfl; (simp only [Nat.reduceEqDiff, Nat.reduceAdd, ↓reduceIte, xBB, stG, undef, opA, val, opdA, opdO, plainN, omap, binA, intBinA, loadV, readA, storeV, writeA, fieldAddrA, indexAddrA, lenA, builtinA, newA, unA, packA, Value.cells, ty28, cutL]; rfl); first | rfl | exact ⟨rfl, rfl, rfl⟩))
  ((with_reducible first | apply xCa | apply xCd); rfl; (simp only [Nat.reduceEqDiff, Nat.reduceAdd, ↓reduceIte, xBB, stB, opdA, opdO, plainN, omap, val, Value.cells]; exact ⟨rfl, rfl⟩); try rfl)
  apply call_fn
  refine (f62_spec' n es ev _ (hs.keep hA0) hg).use (by first | exact Nat.le_refl _ | (simp only [cond_true, cond_false]; omega) | omega | (dsimp only; omega)) (by first | exact Nat.le_refl _ | (simp only [cond_true, cond_false]; omega) | omega | (dsimp only; omega)) fun v s1 hv hA1 => ?_
  have hl1 := hv
  obtain ⟨rb, rc, rfl⟩ := hl1.shape
  have hn1 := hA1.nx
  dsimp only at hn1
  have hbox := hA1.get (Nat.le_refl _) (Nat.lt_succ_self s.nx)
  rw [T.get_put_eq] at hbox
  have hA01 := hA0.trans (hA1.lower (Nat.le_succ _) (Nat.le_refl _))
  refine opt_of rfl ?_
  repeat (first
  | with_reducible first | refine st (by constructor) ?_ | apply c_region
  | (with_reducible apply k_block_on
     · decide)
  | ((with_reducible first | apply xOp | apply xDr | apply xIf); rfl; (simp only [Nat.reduceEqDiff, Nat.reduceAdd, ↓reduceIte, xBB, stG, undef, opA, val, opdA, opdO, plainN, omap, binA, intBinA, loadV, readA, storeV, writeA, fieldAddrA, indexAddrA, lenA, builtinA, newA, unA, packA, Value.cells, fd28_0]; rfl); first | rfl | exact ⟨rfl, rfl, rfl⟩))
  (first
      | (with_reducible apply d_lowS (lo := s.nx + 1)
         · rfl
         · rfl
         · rfl
         · (intro m hm hmm; simp only [List.mem_cons, List.not_mem_nil, or_false] at hm; first | (obtain rfl := hm; dsimp only; omega) | (rcases hm with rfl | rfl <;> first | omega | (dsimp only; omega) | (exfalso; revert hmm; decide)) | (rcases hm with rfl | rfl | rfl <;> first | omega | (dsimp only; omega) | (exfalso; revert hmm; decide)))
         · (intro sh hshn hshg; have l_hbox := (hshg _ (by omega)).trans hbox; simp only [Nat.reduceEqDiff, opA, val, opdA, opdO, T.get_put, ↓reduceIte, Nat.add_assoc, Nat.reduceAdd, Nat.left_eq_add, Nat.add_eq_left, Nat.add_left_cancel_iff, Nat.add_zero, plainN, omap, Option.map_some, Option.bind_some, Nat.le_add_right, Nat.le_refl, binA, intBinA, loadV, readA, storeV, writeA, fieldAddrA, indexAddrA, lenA, builtinA, newA, unA, packA, if_true, and_self, and_true, true_and, Value.cells, Int.toNat_natCast, decide_true, decide_false, cond_true, cond_false, ty3, cutL, l_hbox]; rfl)
         · rfl))
  intro s2 h2n h2g
  have hmk : ∀ s : HS, makeSliceA Tryd.prog 35 (.int .i64 n) (.int .i64 n) s = some (.slice (some ⟨s.nx, 0, none⟩) n n, { hp := s.hp.put s.nx (some (.cells true 3 (zerosL [.int .i64 0] n))), nx := s.nx + 1 }) := fun s => by
    unfold makeSliceA
    simp only [el35, sz3, by3, zr3, Option.bind_some]
    rw [if_pos ⟨rfl, by decide, by omega, Int.le_refl _, by omega, by omega⟩]
    rfl
  refine d_low (lo := 0) rfl rfl rfl (by (intro m hm hmm; simp only [List.mem_cons, List.not_mem_nil, or_false] at hm; first | (obtain rfl := hm; dsimp only; omega) | (rcases hm with rfl | rfl <;> first | omega | (dsimp only; omega) | (exfalso; revert hmm; decide)) | (rcases hm with rfl | rfl | rfl <;> first | omega | (dsimp only; omega) | (exfalso; revert hmm; decide)))) fun sh hshn hshg => ?_
  refine ⟨_, by (simp only [Nat.reduceEqDiff, opA, val, opdA, opdO, T.get_put, ↓reduceIte, Nat.add_assoc, Nat.reduceAdd, Nat.left_eq_add, Nat.add_eq_left, Nat.add_left_cancel_iff, Nat.add_zero, plainN, omap, Option.map_some, Option.bind_some, Nat.le_add_right, Nat.le_refl, binA, intBinA, loadV, readA, storeV, writeA, fieldAddrA, indexAddrA, lenA, builtinA, newA, unA, packA, if_true, and_self, and_true, true_and, Value.cells, Int.toNat_natCast, decide_true, decide_false, cond_true, cond_false, hmk]; rfl), ?_⟩
  refine opt_of rfl ?_
  intro s3 hA3 h3n h3g
  dsimp only at h3n h3g
  have hof3 : s3.hp.get s1.nx = some (.cells true 3 (zerosL [.int .i64 0] n)) := by
    rw [h3g _ (by omega), T.get_put, if_pos (by omega)]
  have hsame3 : ∀ id, id < s1.nx → s3.hp.get id = s1.hp.get id := fun id h => by
    rw [hA3.get (Nat.le_refl _) (by omega)]; exact h2g id
  have hn3 : s3.nx = s1.nx + 1 := by omega
  have hl3 : LlsE encB s3 _ _ := hl1.same (by omega) hsame3
  have hbox3 := (hsame3 s.nx (by omega)).trans hbox
  have hlen : ((List.range n).map (seenH n es)).length = n := by simp
  have hsh : sh.nx = s1.nx := by omega
  have hof0 : Own s3 3 1 (some s1.nx) (.slice (some ⟨s1.nx, 0, none⟩) n n) ((List.replicate n (0 : Int)).map encI) := by
    refine Own.block hof3 ?_ (by omega) (by simp) (Or.inl rfl) (fun x hx => ?_) (by simp only [List.length_map, List.length_replicate]; unfold UNK; omega)
    · rw [zerosL_map, List.map_replicate]; rfl
    · obtain ⟨y, _, rfl⟩ := List.mem_map.1 hx; exact ⟨rfl, rfl⟩
  refine opt_of rfl ?_
  repeat (first
  | with_reducible first | refine st (by constructor) ?_ | apply c_region
  | (with_reducible apply k_block_on
     · decide)
  | ((with_reducible first | apply xOp | apply xDr | apply xIf); rfl; (simp only [Nat.reduceEqDiff, Nat.reduceAdd, ↓reduceIte, xBB, stG, undef, opA, val, opdA, opdO, plainN, omap, binA, intBinA, loadV, readA, storeV, writeA, fieldAddrA, indexAddrA, lenA, builtinA, newA, unA, packA, Value.cells, un35]; rfl); first | rfl | exact ⟨rfl, rfl, rfl⟩))
  refine loop_k (lk' := s1.nx) (s0 := s3) (fun m f t => ∃ k : Nat, k + m = n ∧ f.get 18 = some (.int .i64 k) ∧ ∃ L : List Int, Own t 3 1 (some s1.nx) (.slice (some ⟨s1.nx, 0, none⟩) n n) (L.map encI) ∧ L.length = n ∧ ∀ x, x < k → L[x]? = some (-1)) n (by omega) (by omega) ?_ (Ab.refl _ _) ?_
  · exact ⟨0, by omega, by simp only [Nat.reduceEqDiff, T.get_put, ↓reduceIte]; rfl, _, hof0, by simp, fun x h => by omega⟩
  · rintro m f t ⟨k, hk, h18, L, hof, hL, hLs⟩ hA hF
    (have k1 := hF 1 (by rfl); simp only [Nat.reduceEqDiff, T.get_put, ↓reduceIte, hshn, h2n] at k1; have k4 := hF 4 (by rfl); simp only [Nat.reduceEqDiff, T.get_put, ↓reduceIte, hshn, h2n] at k4; have k5 := hF 5 (by rfl); simp only [Nat.reduceEqDiff, T.get_put, ↓reduceIte, hshn, h2n] at k5; have k17 := hF 17 (by rfl); simp only [Nat.reduceEqDiff, T.get_put, ↓reduceIte, hshn, h2n] at k17)
    have hnt := hA.nx
    by_cases hlt : (k : Int) < (n : Int)
    · have hlt' : k < n := by omega
      have hw : IntKind.i64.wrap ((k : Int) + 1) = ((k + 1 : Nat) : Int) := by rw [IntWalk.i64_in _ (by omega)]; rfl
      have hb : (0 : Int) ≤ (k : Int) ∧ (k : Int) < (n : Int) := by omega
      obtain ⟨off3, cap3, cs3, hh3, w1, w2, w3⟩ := hof.set (i := k) (x := [.int .i64 (-1)]) (by simp; omega) rfl rfl
      simp only [Value.slice.injEq, Option.some.injEq, Addr.mk.injEq] at hh3; obtain ⟨⟨_, rfl, _⟩, _, _⟩ := hh3
      have w2' : 0 + (k * 1 + 1) ≤ cs3.length := by rw [← Nat.add_assoc]; exact w2
      have hl1 : ([Value.int .i64 (-1)] : List Value).length = 1 := rfl
      have hone : ([Value.int .i64 (-1)] : List Value).all Value.oneCell' = true := rfl
      have hlo : s1.nx ≤ s1.nx := Nat.le_refl _
      repeat (first
  | with_reducible first | refine st (by constructor) ?_ | apply c_region
  | (with_reducible apply k_block_on
     · decide)
  | ((with_reducible first | apply xOp | apply xDr | apply xIf); rfl; (simp only [Nat.reduceEqDiff, Nat.reduceAdd, ↓reduceIte, xBB, stG, undef, opA, val, opdA, opdO, plainN, omap, binA, intBinA, loadV, readA, storeV, writeA, fieldAddrA, indexAddrA, lenA, builtinA, newA, unA, packA, Value.cells, h18, k17, hlt, k5, un35, sz3, hb, w1, w2', hl1, hone, List.toList_toArray, hw]; rfl); first | rfl | exact ⟨rfl, rfl, rfl⟩))
      intro _ _
      refine k_loop_next (m' := m - 1) (by omega) ⟨k + 1, by omega, by simp only [Nat.reduceEqDiff, T.get_put, ↓reduceIte], L.set k (-1), ?_, by simp [hL], fun x hx => ?_⟩
      · rw [List.map_set]
        exact w3 _ (Nat.le_refl _) (T.get_put_eq _ _ _)
      · rw [List.getElem?_set]
        by_cases hkx : k = x
        · subst hkx; rw [if_pos rfl, if_pos (by omega)]
        · rw [if_neg hkx]; exact hLs x (by omega)
    · repeat (first
  | with_reducible first | refine st (by constructor) ?_ | apply c_region
  | (with_reducible apply k_block_on
     · decide)
  | ((with_reducible first | apply xOp | apply xDr | apply xIf); rfl; (simp only [Nat.reduceEqDiff, Nat.reduceAdd, ↓reduceIte, xBB, stG, undef, opA, val, opdA, opdO, plainN, omap, binA, intBinA, loadV, readA, storeV, writeA, fieldAddrA, indexAddrA, lenA, builtinA, newA, unA, packA, Value.cells, h18, k17, hlt]; rfl); first | rfl | exact ⟨rfl, rfl, rfl⟩))
      intro _ _
      have hkn : k = n := by omega
      clear hF
      have hOf0 : OfOK n es 0 L := ⟨hL, fun x hx => ⟨fun r h => by omega, fun _ => hLs x (by omega)⟩⟩
      have hbox4 : t.hp.get s.nx = _ := (hA.get (by omega) (by omega)).trans hbox3
      repeat (first
  | with_reducible first | refine st (by constructor) ?_ | apply c_region
  | (with_reducible apply k_block_on
     · decide)
  | ((with_reducible first | apply xOp | apply xDr | apply xIf); rfl; (simp only [Nat.reduceEqDiff, Nat.reduceAdd, ↓reduceIte, xBB, stG, undef, opA, val, opdA, opdO, plainN, omap, binA, intBinA, loadV, readA, storeV, writeA, fieldAddrA, indexAddrA, lenA, builtinA, newA, unA, packA, Value.cells, un35, k5]; rfl); first | rfl | exact ⟨rfl, rfl, rfl⟩))
      have b1 := k1; have b4 := k4; have b5 := k5
      refine loop_k (lk' := s1.nx) (s0 := t) (fun m f t => ∃ k : Nat, k + m = n ∧ f.get 27 = some (.int .i64 k) ∧ ∃ (o : Option Nat) (v : Value) (L : List Int), f.get 7 = some v ∧ Bld t (fun id => id ≤ s1.nx) o v (compsL n es k) ∧ Own t 3 1 (some s1.nx) (.slice (some ⟨s1.nx, 0, none⟩) n n) (L.map encI) ∧ OfOK n es k L) n (by omega) (by omega) ?_ (Ab.refl _ _) ?_
      · exact ⟨0, by omega, by simp only [Nat.reduceEqDiff, T.get_put, ↓reduceIte]; rfl, none, _, L, by simp only [Nat.reduceEqDiff, T.get_put, ↓reduceIte], Bld.nil, hof, hOf0⟩
      · clear h18 k17 hlt hkn hk hOf0 hLs hL hof
        rintro m2 f2 t2 ⟨k, hk, h27, o, v, L, h7, hB, hof, hOK⟩ hA2 hF
        (have k1 := hF 1 (by rfl); simp only [Nat.reduceEqDiff, T.get_put, ↓reduceIte, b1, b4, b5] at k1; have k4 := hF 4 (by rfl); simp only [Nat.reduceEqDiff, T.get_put, ↓reduceIte, b1, b4, b5] at k4; have k5 := hF 5 (by rfl); simp only [Nat.reduceEqDiff, T.get_put, ↓reduceIte, b1, b4, b5] at k5; have k26 := hF 26 (by rfl); simp only [Nat.reduceEqDiff, T.get_put, ↓reduceIte, b1, b4, b5] at k26)
        have hnt2 := hA2.nx
        have hl5 : LlsE encB t2 _ _ := hl1.same (by omega) fun id h => (hA2.get (by omega) h).trans ((hA.get (by omega) h).trans (hsame3 id h))
        have hbox5 := (hA2.get (by omega) (show s.nx < s1.nx by omega)).trans hbox4
        by_cases hlt : (k : Int) < (n : Int)
        · have hlt' : k < n := by omega
          have hw : IntKind.i64.wrap ((k : Int) + 1) = ((k + 1 : Nat) : Int) := by rw [IntWalk.i64_in _ (by omega)]; rfl
          have hb : (0 : Int) ≤ (k : Int) ∧ (k : Int) < (n : Int) := by omega
          obtain ⟨z, hz, hz1, hz2⟩ := ofOK_at hg hlt' hOK
          have hofs := hof.sl
          rw [show n = (L.map encI).length by rw [List.length_map]; exact hOK.1.symm] at hofs
          obtain ⟨id, off, wr, e, cs, hh, g1, g2, g3, g4⟩ := hofs.at (i := k) (x := encI z) (by simp [hz])
          cases hh
          simp only [encI] at g3
          cases hr : isRep n es k with
          | false =>
            have hz3 : z ≥ 0 := hz2 hr
            repeat (first
  | with_reducible first | refine st (by constructor) ?_ | apply c_region
  | (with_reducible apply k_block_on
     · decide)
  | ((with_reducible first | apply xOp | apply xDr | apply xIf); rfl; (simp only [Nat.reduceEqDiff, Nat.reduceAdd, ↓reduceIte, xBB, stG, undef, opA, val, opdA, opdO, plainN, omap, binA, intBinA, loadV, readA, storeV, writeA, fieldAddrA, indexAddrA, lenA, builtinA, newA, unA, packA, Value.cells, h27, k26, hlt, k5, un35, sz3, ty3, hb, g1, g3, hz3, hw]; rfl); first | rfl | exact ⟨rfl, rfl, rfl⟩))
            intro _ _
            refine k_loop_next (m' := m2 - 1) (by omega) ⟨k + 1, by omega, by simp only [Nat.reduceEqDiff, T.get_put, ↓reduceIte], o, v, L, by simp only [Nat.reduceEqDiff, T.get_put, ↓reduceIte]; exact h7, ?_, hof, ofOK_skip hr hOK⟩
            have : compsL n es (k + 1) = compsL n es k := by unfold compsL; rw [reps_succ, hr]; simp
            rw [this]; exact hB
          | true =>
            have hz3 : ¬ z ≥ 0 := by have := hz1 hr; omega
            obtain ⟨vb, vc, hv⟩ := hB.shape
            rw [compsL_len] at hv; subst hv
            repeat (first
  | with_reducible first | refine st (by constructor) ?_ | apply c_region
  | (with_reducible apply k_block_on
     · decide)
  | ((with_reducible first | apply xOp | apply xDr | apply xIf); rfl; (simp only [Nat.reduceEqDiff, Nat.reduceAdd, ↓reduceIte, xBB, stG, undef, opA, val, opdA, opdO, plainN, omap, binA, intBinA, loadV, readA, storeV, writeA, fieldAddrA, indexAddrA, lenA, builtinA, newA, unA, packA, Value.cells, h27, k26, hlt, k5, un35, sz3, ty3, hb, g1, g3, hz3]; rfl); first | rfl | exact ⟨rfl, rfl, rfl⟩))
            have c1 := k1; have c4 := k4; have c5 := k5; have c26 := k26
            refine loop_k (lk' := s1.nx) (s0 := t2) (fun m f t => ∃ j : Nat, j + m = n ∧ k ≤ j ∧ f.get 10 = some (.int .i64 j) ∧ ∃ (ol : Option Nat) (lv : Value) (L' : List Int), f.get 9 = some lv ∧ Own t 3 1 ol lv ((nodesL (compN n es k) j).map encI) ∧ (∀ id, ol = some id → t2.nx ≤ id) ∧ Bld t (fun id => id ≤ s1.nx ∨ t2.nx ≤ id) o (.slice vb (reps n es k).length vc) (compsL n es k) ∧ Own t 3 1 (some s1.nx) (.slice (some ⟨s1.nx, 0, none⟩) n n) (L'.map encI) ∧ L'.length = n ∧ ∀ x, x < n → L'[x]? = if k ≤ x ∧ x < j ∧ mutB n es k x = true then some ((reps n es k).length : Int) else L[x]?) (n - k) (by omega) (by omega) ?_ (Ab.refl _ _) ?_
            · refine ⟨k, by omega, Nat.le_refl _, by simp only [Nat.reduceEqDiff, T.get_put, ↓reduceIte], none, .slice none 0 0, L, by simp only [Nat.reduceEqDiff, T.get_put, ↓reduceIte], ?_, fun id h => (by cases h), hB.same (Nat.le_refl _) (fun id _ _ => rfl) (fun id h => h), hof, hOK.1, fun x hx => ?_⟩
              · rw [comp_start hr]; exact ⟨rfl, rfl⟩
              · rw [if_neg (by omega)]
            · clear hF
              have c7 := h7; have c27 := h27
              rintro m3 f3 t3 ⟨j, hj, hkj, h10, ol, lv, L', h9, hol, hoi, hB3, hof3, hL3, hLx⟩ hA3 hF
              (have k1 := hF 1 (by rfl); simp only [Nat.reduceEqDiff, T.get_put, ↓reduceIte, c1, c4, c5, c7, c26, c27] at k1; have k4 := hF 4 (by rfl); simp only [Nat.reduceEqDiff, T.get_put, ↓reduceIte, c1, c4, c5, c7, c26, c27] at k4; have k5 := hF 5 (by rfl); simp only [Nat.reduceEqDiff, T.get_put, ↓reduceIte, c1, c4, c5, c7, c26, c27] at k5; have k7 := hF 7 (by rfl); simp only [Nat.reduceEqDiff, T.get_put, ↓reduceIte, c1, c4, c5, c7, c26, c27] at k7; have k8 := hF 8 (by rfl); simp only [Nat.reduceEqDiff, T.get_put, ↓reduceIte, c1, c4, c5, c7, c26, c27] at k8; have k26 := hF 26 (by rfl); simp only [Nat.reduceEqDiff, T.get_put, ↓reduceIte, c1, c4, c5, c7, c26, c27] at k26; have k27 := hF 27 (by rfl); simp only [Nat.reduceEqDiff, T.get_put, ↓reduceIte, c1, c4, c5, c7, c26, c27] at k27)
              have hnt3 := hA3.nx
              have hbox6 := (hA3.get (by omega) (show s.nx < s1.nx by omega)).trans hbox5
              by_cases hjl : (j : Int) < (n : Int)
              · have hjl' : j < n := by omega
                have hw2 : IntKind.i64.wrap ((j : Int) + 1) = ((j + 1 : Nat) : Int) := by rw [IntWalk.i64_in _ (by omega)]; rfl
                have hl6 : LlsE encB t3 _ _ := hl1.same (by omega) fun id h => (hA3.get (by omega) h).trans ((hA2.get (by omega) h).trans ((hA.get (by omega) h).trans (hsame3 id h)))
                obtain ⟨id1, off1, wr1, e1, cs1, rb1, rc1, rfl, a1, a2, a3, a4⟩ := hl6.at (i := k) (l := seenH n es k) (by rw [List.getElem?_map, List.getElem?_range hlt']; rfl)
                obtain ⟨id2, off2, wr2, e2, cs2, rb2, rc2, hh2, b1', b2', b3, b4'⟩ := hl6.at (i := j) (l := seenH n es j) (by rw [List.getElem?_map, List.getElem?_range hjl']; rfl)
                cases hh2
                rw [a1] at b1'
                cases b1'
                have hrow : ∀ i, ((seenH n es i).map encB).length = n := fun i => by unfold seenH; simp
                have hel : ∀ i x, x < n → ((seenH n es i).map encB)[x]? = some (encB ((HN n es i).testBit x)) := fun i x hx => by
                  unfold seenH; rw [List.getElem?_map, List.getElem?_map, List.getElem?_range hx]; rfl
                obtain ⟨id3, off3, wr3, e3, cs3, rfl, p1, p2, p3, p4⟩ := a4.at (i := j) (hel k j hjl')
                obtain ⟨id4, off4, wr4, e4, cs4, rfl, r1, r2, r3, r4⟩ := b4'.at (i := k) (hel j k hlt')
                simp only [encB] at p3 r3
                have hbj : (0 : Int) ≤ (j : Int) ∧ (j : Int) < (n : Int) := by omega
                have hc0 : cutL [Value.int .i64 (n : Int), ev] 0 1 = some [Value.int .i64 n] := rfl
                have hskip : mutB n es k j = false → nodesL (compN n es k) (j + 1) = nodesL (compN n es k) j ∧ ∀ x, x < n → L'[x]? = if k ≤ x ∧ x < j + 1 ∧ mutB n es k x = true then some ((reps n es k).length : Int) else L[x]? := fun hm => by
                  refine ⟨?_, fun x hx => ?_⟩
                  · rw [nodesL_succ, compN_bit, hm]; simp
                  · rw [hLx x hx]
                    by_cases hxj : x = j
                    · subst hxj; rw [hm]; simp
                    · by_cases h1 : k ≤ x ∧ x < j ∧ mutB n es k x = true
                      · rw [if_pos h1, if_pos ⟨h1.1, by omega, h1.2.2⟩]
                      · rw [if_neg h1, if_neg fun h2 => h1 ⟨h2.1, by omega, h2.2.2⟩]
                cases hb1 : (HN n es k).testBit j with
                | false =>
                  rw [hb1] at p3
                  repeat (first
  | with_reducible first | refine st (by constructor) ?_ | apply c_region
  | (with_reducible apply k_block_on
     · decide)
  | ((with_reducible first | apply xOp | apply xDr | apply xIf); rfl; (simp only [Nat.reduceEqDiff, Nat.reduceAdd, ↓reduceIte, xBB, stG, undef, opA, val, opdA, opdO, plainN, omap, binA, intBinA, loadV, readA, storeV, writeA, fieldAddrA, indexAddrA, lenA, builtinA, newA, unA, packA, Value.cells, h10, k1, fd28_0, ty3, hbox6, hc0, hjl, k4, k8, un100, sz95, ty95, hlen, hb, hbj, a1, a3, b3, hrow, un95, sz4, ty4, p1, p3, r1, r3, hw2]; rfl); first | rfl | exact ⟨rfl, rfl, rfl⟩))
                  intro _ _
                  obtain ⟨e1', e2'⟩ := hskip (by unfold mutB; rw [hb1]; rfl)
                  exact k_loop_next (m' := m3 - 1) (by omega) ⟨j + 1, by omega, by omega, by simp only [Nat.reduceEqDiff, T.get_put, ↓reduceIte], ol, lv, L', by simp only [Nat.reduceEqDiff, T.get_put, ↓reduceIte]; exact h9, by rw [e1']; exact hol, hoi, hB3, hof3, hL3, e2'⟩
                | true =>
                  rw [hb1] at p3
                  cases hb2 : (HN n es j).testBit k with
                  | false =>
                    rw [hb2] at r3
                    repeat (first
  | with_reducible first | refine st (by constructor) ?_ | apply c_region
  | (with_reducible apply k_block_on
     · decide)
  | ((with_reducible first | apply xOp | apply xDr | apply xIf); rfl; (simp only [Nat.reduceEqDiff, Nat.reduceAdd, ↓reduceIte, xBB, stG, undef, opA, val, opdA, opdO, plainN, omap, binA, intBinA, loadV, readA, storeV, writeA, fieldAddrA, indexAddrA, lenA, builtinA, newA, unA, packA, Value.cells, h10, k1, fd28_0, ty3, hbox6, hc0, hjl, k4, k8, un100, sz95, ty95, hlen, hb, hbj, a1, a3, b3, hrow, un95, sz4, ty4, p1, p3, r1, r3, hw2]; rfl); first | rfl | exact ⟨rfl, rfl, rfl⟩))
                    intro _ _
                    obtain ⟨e1', e2'⟩ := hskip (by unfold mutB; rw [hb2]; simp)
                    exact k_loop_next (m' := m3 - 1) (by omega) ⟨j + 1, by omega, by omega, by simp only [Nat.reduceEqDiff, T.get_put, ↓reduceIte], ol, lv, L', by simp only [Nat.reduceEqDiff, T.get_put, ↓reduceIte]; exact h9, by rw [e1']; exact hol, hoi, hB3, hof3, hL3, e2'⟩
                  | true =>
                    rw [hb2] at r3
                    obtain ⟨off9, cap9, cs9, hh9, w1, w2, w3⟩ := hof3.set (i := j) (x := [.int .i64 (((reps n es k).length : Nat) : Int)]) (by simp; omega) rfl rfl
                    simp only [Value.slice.injEq, Option.some.injEq, Addr.mk.injEq] at hh9; obtain ⟨⟨_, rfl, _⟩, _, _⟩ := hh9
                    have w2' : 0 + (j * 1 + 1) ≤ cs9.length := by rw [← Nat.add_assoc]; exact w2
                    have hl1 : ([Value.int .i64 (((reps n es k).length : Nat) : Int)] : List Value).length = 1 := rfl
                    have hone : ([Value.int .i64 (((reps n es k).length : Nat) : Int)] : List Value).all Value.oneCell' = true := rfl
                    have hlo : s1.nx ≤ s1.nx := Nat.le_refl _
                    repeat (first
  | with_reducible first | refine st (by constructor) ?_ | apply c_region
  | (with_reducible apply k_block_on
     · decide)
  | ((with_reducible first | apply xOp | apply xDr | apply xIf); rfl; (simp only [Nat.reduceEqDiff, Nat.reduceAdd, ↓reduceIte, xBB, stG, undef, opA, val, opdA, opdO, plainN, omap, binA, intBinA, loadV, readA, storeV, writeA, fieldAddrA, indexAddrA, lenA, builtinA, newA, unA, packA, Value.cells, h10, k1, fd28_0, ty3, hbox6, hc0, hjl, k4, k8, un100, sz95, ty95, hlen, hb, hbj, a1, a3, b3, hrow, un95, sz4, ty4, p1, p3, r1, r3, k5, k7, un30, un35, sz3, w1, w2', hl1, hone, List.toList_toArray, hlo, buildSliceA, el35, zr3, zerosL, fillA, h9]; rfl); first | rfl | exact ⟨rfl, rfl, rfl⟩))
                    ((with_reducible first | apply ops_opt | apply xPd); (first | rfl | exact ⟨rfl, rfl⟩); (simp only [Nat.reduceEqDiff, Nat.reduceAdd, ↓reduceIte, xBB, opA, val, opdA, opdO, plainN, omap, binA, intBinA, loadV, readA, storeV, writeA, fieldAddrA, indexAddrA, lenA, builtinA, newA, unA, packA, Value.cells, un35, h9]; rfl))
                    generalize hst0 : ({ hp := (t3.hp.put s1.nx (some (.cells true 3 (putL cs9 (0 + j * 1) [.int .i64 (((reps n es k).length : Nat) : Int)])))).put t3.nx (some (.cells true 3 (putL ([.int .i64 0] ++ []) (0 * 1) [.int .i64 j]))), nx := t3.nx + 1 } : HS) = w
                    have hwn : w.nx = t3.nx + 1 := by rw [← hst0]
                    have hwo : ∀ id, id < t3.nx → id ≠ s1.nx → w.hp.get id = t3.hp.get id := fun id h1 h2 => by
                      rw [← hst0]; show (T.put (T.put _ _ _) _ _).get id = _
                      rw [T.get_put_ne _ _ _ (by omega), T.get_put_ne _ _ _ h2]
                    have hwf : w.hp.get s1.nx = some (.cells true 3 (putL cs9 (0 + j * 1) [.int .i64 (((reps n es k).length : Nat) : Int)])) := by
                      rw [← hst0]; show (T.put (T.put _ _ _) _ _).get s1.nx = _
                      rw [T.get_put_ne _ _ _ (by omega), T.get_put_eq]
                    have hwy : w.hp.get t3.nx = some (.cells true 3 [.int .i64 j]) := by rw [← hst0]; exact T.get_put_eq _ _ _
                    have hol2 : Own w 3 1 ol lv ((nodesL (compN n es k) j).map encI) := hol.same (by omega) fun id h => hwo id (hol.lt h) (by have := hoi id h; omega)
                    have hlen3 := nodesL_len (compN n es k) j
                    refine opt_ex (app_one (lk := s1.nx) (y := [.int .i64 j]) el35 sz3 by3 zr3 rfl (by decide) hol2 (fun id h => by have := hoi id h; omega) hwy rfl rfl (by simp; omega)) fun q hq => ?_
                    obtain ⟨qv, s5⟩ := q
                    obtain ⟨u1, u2, o', u3, u4⟩ := hq
                    dsimp only at u1 u2 u3
                    have hmj : mutB n es k j = true := by unfold mutB; rw [hb1, hb2]; rfl
                    refine opt_of rfl ?_
                    repeat (first
  | with_reducible first | refine st (by constructor) ?_ | apply c_region
  | (with_reducible apply k_block_on
     · decide)
  | ((with_reducible first | apply xOp | apply xDr | apply xIf); rfl; (simp only [Nat.reduceEqDiff, Nat.reduceAdd, ↓reduceIte, xBB, stG, undef, opA, val, opdA, opdO, plainN, omap, binA, intBinA, loadV, readA, storeV, writeA, fieldAddrA, indexAddrA, lenA, builtinA, newA, unA, packA, Value.cells, h10, hw2]; rfl); first | rfl | exact ⟨rfl, rfl, rfl⟩))
                    intro _ _
                    refine k_loop_next (m' := m3 - 1) (by omega) ⟨j + 1, by omega, by omega, by simp only [Nat.reduceEqDiff, T.get_put, ↓reduceIte], o', qv, L'.set j (((reps n es k).length : Nat) : Int), by simp only [Nat.reduceEqDiff, T.get_put, ↓reduceIte], ?_, fun id h => ?_, ?_, ?_, by simp [hL3], fun x hx => ?_⟩
                    · rw [nodesL_succ, compN_bit, hmj, if_pos (by simp [hjl']), List.map_append]; exact u3
                    · rcases u4 with rfl | rfl
                      · exact hoi id h
                      · cases h; omega
                    · refine hB3.same (by omega) (fun id h1 h2 => ?_) fun id h => Or.inl h
                      rw [u2 id (by omega) (fun h3 => h2 (Or.inr (hoi id h3))), hwo id h1 (fun h3 => h2 (Or.inl (by omega)))]
                    · rw [List.map_set]
                      refine w3 _ (by omega) ?_
                      rw [u2 _ (by omega) (fun h3 => by have := hoi _ h3; omega)]; exact hwf
                    · rw [List.getElem?_set]
                      by_cases hxj : j = x
                      · subst hxj; rw [if_pos rfl, if_pos (by omega), if_pos ⟨hkj, by omega, hmj⟩]
                      · rw [if_neg hxj, hLx x hx]
                        by_cases h1 : k ≤ x ∧ x < j ∧ mutB n es k x = true
                        · rw [if_pos h1, if_pos ⟨h1.1, by omega, h1.2.2⟩]
                        · rw [if_neg h1, if_neg fun h2 => h1 ⟨h2.1, by omega, h2.2.2⟩]
              · repeat (first
  | with_reducible first | refine st (by constructor) ?_ | apply c_region
  | (with_reducible apply k_block_on
     · decide)
  | ((with_reducible first | apply xOp | apply xDr | apply xIf); rfl; (simp only [Nat.reduceEqDiff, Nat.reduceAdd, ↓reduceIte, xBB, stG, undef, opA, val, opdA, opdO, plainN, omap, binA, intBinA, loadV, readA, storeV, writeA, fieldAddrA, indexAddrA, lenA, builtinA, newA, unA, packA, Value.cells, h10, k1, fd28_0, ty3, hbox6, cutL, hjl]; rfl); first | rfl | exact ⟨rfl, rfl, rfl⟩))
                intro _ _
                have hjn : j = n := by omega
                subst hjn
                obtain ⟨lb, lc, rfl⟩ := hol.shape
                repeat (first
  | with_reducible first | refine st (by constructor) ?_ | apply c_region
  | (with_reducible apply k_block_on
     · decide)
  | ((with_reducible first | apply xOp | apply xDr | apply xIf); rfl; (simp only [Nat.reduceEqDiff, Nat.reduceAdd, ↓reduceIte, xBB, stG, undef, opA, val, opdA, opdO, plainN, omap, binA, intBinA, loadV, readA, storeV, writeA, fieldAddrA, indexAddrA, lenA, builtinA, newA, unA, packA, Value.cells, k7, h9, buildSliceA, el30, sz35, zr35, zerosL, fillA]; rfl); first | rfl | exact ⟨rfl, rfl, rfl⟩))
                ((with_reducible first | apply ops_opt | apply xPd); (first | rfl | exact ⟨rfl, rfl⟩); (simp only [Nat.reduceEqDiff, Nat.reduceAdd, ↓reduceIte, xBB, opA, val, opdA, opdO, plainN, omap, binA, intBinA, loadV, readA, storeV, writeA, fieldAddrA, indexAddrA, lenA, builtinA, newA, unA, packA, Value.cells, un30, un35, k7]; rfl))
                generalize hst0 : ({ hp := t3.hp.put t3.nx (some (.cells true 35 (putL ([.slice none 0 0] ++ []) (0 * 1) [.slice lb ((nodesL (compN j es k) j).map encI).length lc]))), nx := t3.nx + 1 } : HS) = w
                have hwn : w.nx = t3.nx + 1 := by rw [← hst0]
                have hwo : ∀ id, id < t3.nx → w.hp.get id = t3.hp.get id := fun id h => by rw [← hst0]; exact T.get_put_ne _ _ _ (by omega)
                have hwy : w.hp.get t3.nx = some (.cells true 35 [.slice lb ((nodesL (compN j es k) j).map encI).length lc]) := by rw [← hst0]; exact T.get_put_eq _ _ _
                have hol2 : Own w 3 1 ol _ _ := hol.same (by omega) fun id h => hwo id (hol.lt h)
                have hB4 : Bld w (fun id => id ≤ s1.nx) o _ _ := hB3.same (by omega) (fun id h _ => hwo id h) fun id h => Or.inl (Or.inl h)
                have hrl := reps_len (n := j) (es := es) k
                refine opt_ex (app_bld (lk := s1.nx) (l := nodesL (compN j es k) j) hB4 (fun id h => by have := hB4.1 id h; omega) hwy (SlB.of_own hol2 fun id h h2 => ?_) (by rw [compsL_len]; omega) (by omega)) fun q hq => ?_
                · have := hoi id h
                  rcases h2 with h2 | h2
                  · have := hB.lt h2; omega
                  · omega
                obtain ⟨qv, s5⟩ := q
                obtain ⟨u1, u2, o', u3, u4⟩ := hq
                dsimp only at u1 u2 u3
                refine opt_of rfl ?_
                repeat (first
  | with_reducible first | refine st (by constructor) ?_ | apply c_region
  | (with_reducible apply k_block_on
     · decide)
  | ((with_reducible first | apply xOp | apply xDr | apply xIf); rfl; (simp only [Nat.reduceEqDiff, Nat.reduceAdd, ↓reduceIte, xBB, stG, undef, opA, val, opdA, opdO, plainN, omap, binA, intBinA, loadV, readA, storeV, writeA, fieldAddrA, indexAddrA, lenA, builtinA, newA, unA, packA, Value.cells, k27, hw]; rfl); first | rfl | exact ⟨rfl, rfl, rfl⟩))
                intro _ _
                refine k_loop_next (m' := m2 - 1) (by omega) ⟨k + 1, by omega, by simp only [Nat.reduceEqDiff, T.get_put, ↓reduceIte], o', qv, L', by simp only [Nat.reduceEqDiff, T.get_put, ↓reduceIte], ?_, ?_, ofOK_step hg hlt' hr hOK hL3 hLx⟩
                · have : compsL j es (k + 1) = compsL j es k ++ [nodesL (compN j es k) j] := by unfold compsL; rw [reps_succ, hr, if_pos rfl, List.map_append]; rfl
                  rw [this]; exact u3
                · refine hof3.same (by omega) fun id h => ?_
                  cases h
                  rw [u2 _ (by omega) (fun h3 => by have := hB4.1 _ h3; omega)]; exact hwo _ (by omega)
        · repeat (first
  | with_reducible first | refine st (by constructor) ?_ | apply c_region
  | (with_reducible apply k_block_on
     · decide)
  | ((with_reducible first | apply xOp | apply xDr | apply xIf); rfl; (simp only [Nat.reduceEqDiff, Nat.reduceAdd, ↓reduceIte, xBB, stG, undef, opA, val, opdA, opdO, plainN, omap, binA, intBinA, loadV, readA, storeV, writeA, fieldAddrA, indexAddrA, lenA, builtinA, newA, unA, packA, Value.cells, h27, k26, hlt]; rfl); first | rfl | exact ⟨rfl, rfl, rfl⟩))
          intro _ _
          repeat (first
  | with_reducible first | refine st (by constructor) ?_ | apply c_region
  | (with_reducible apply k_block_on
     · decide)
  | ((with_reducible first | apply xOp | apply xDr | apply xIf); rfl; (simp only [Nat.reduceEqDiff, Nat.reduceAdd, ↓reduceIte, xBB, stG, undef, opA, val, opdA, opdO, plainN, omap, binA, intBinA, loadV, readA, storeV, writeA, fieldAddrA, indexAddrA, lenA, builtinA, newA, unA, packA, Value.cells, h7, k5]; rfl); first | rfl | exact ⟨rfl, rfl, rfl⟩))
          intro _
          ((with_reducible first | apply ret_i | apply ret_n); (simp only [Nat.reduceEqDiff, Nat.reduceAdd, ↓reduceIte, xBB, resA, opdA, opdO, plainN, omap, val, loadV, readA, packA]; rfl))
          have hkn : k = n := by omega
          subst hkn
          have hofs := hof.sl
          exact ⟨_, _, L, rfl, ⟨o, hB.weak fun id h => by omega⟩, hofs, hOK⟩
end Go.Ev

/- Plain laws: the order in which components can be moved out. -/
set_option linter.unusedSimpArgs false
set_option linter.unusedVariables false
namespace Go.Ev
open Go

/-! ### Bits -/
/-- What a set has beyond another one. -/
def andnN (a b : Nat) : Nat := (BitVec.ofNat 64 a &&& ~~~BitVec.ofNat 64 b).toNat
theorem andnN_lt (a b : Nat) : andnN a b < 18446744073709551616 := (BitVec.ofNat 64 a &&& ~~~BitVec.ofNat 64 b).isLt
theorem andnot_u64 {a b : Nat} : IntKind.u64.wrap ((BitVec.ofInt IntKind.u64.bits (a : Int) &&& ~~~BitVec.ofInt IntKind.u64.bits (b : Int)).toNat : Int) = ((andnN a b : Nat) : Int) := by
  show IntKind.u64.wrap ((BitVec.ofInt 64 (a : Int) &&& ~~~BitVec.ofInt 64 (b : Int)).toNat : Int) = _
  rw [BitVec.ofInt_natCast, BitVec.ofInt_natCast]
  exact wrapU (andnN_lt a b)
theorem andnN_zero {a b : Nat} (ha : a < 2 ^ 64) : andnN a b = 0 ↔ ∀ j, a.testBit j = true → b.testBit j = true := by
  have hb : ∀ j, (andnN a b).testBit j = (decide (j < 64) && (a.testBit j && !b.testBit j)) := fun j => by
    show (BitVec.toNat _).testBit j = _
    rw [BitVec.testBit_toNat, BitVec.getLsbD_and, BitVec.getLsbD_not, BitVec.getLsbD_ofNat, BitVec.getLsbD_ofNat]
    by_cases h : j < 64 <;> simp [h]
  constructor
  · intro h j hj
    have h2 := hb j
    rw [h, Nat.zero_testBit, hj] at h2
    have h3 : j < 64 := by
      rcases Nat.lt_or_ge j 64 with h3 | h3
      · exact h3
      · rw [lt_bit ha h3] at hj; cases hj
    cases h4 : b.testBit j with
    | true => rfl
    | false => rw [h4] at h2; simp [h3] at h2
  · intro h
    refine Nat.eq_of_testBit_eq fun j => ?_
    rw [hb, Nat.zero_testBit]
    cases h1 : a.testBit j with
    | false => simp
    | true => rw [h j h1]; simp
theorem and_zero {a b : Nat} : a &&& b = 0 ↔ ∀ j, a.testBit j = true → b.testBit j = false := by
  constructor
  · intro h j hj
    have h2 : (a &&& b).testBit j = false := by rw [h, Nat.zero_testBit]
    rw [Nat.testBit_and, hj] at h2
    simpa using h2
  · intro h
    refine Nat.eq_of_testBit_eq fun j => ?_
    rw [Nat.testBit_and, Nat.zero_testBit]
    cases h1 : a.testBit j with
    | false => simp
    | true => rw [h j h1]; simp

/-! ### Closed sets -/
def closedB (es : List (Int × Int)) (S : Nat) : Bool := es.all fun e => !(S.testBit e.1.toNat && !S.testBit e.2.toNat)
theorem closedB_iff {es : List (Int × Int)} {S : Nat} : closedB es S = true ↔ ∀ e ∈ es, S.testBit e.1.toNat = true → S.testBit e.2.toNat = true := by
  unfold closedB
  rw [List.all_eq_true]
  constructor
  · intro h e he h1
    have := h e he
    rw [h1] at this; simpa using this
  · intro h e he
    cases h1 : S.testBit e.1.toNat with
    | false => simp
    | true => rw [h e he h1]; simp
theorem closedB_hull {n : Nat} {es : List (Int × Int)} (hg : GoodG n es) {S : Nat} (h : closedB es S = true) {x y : Nat} (hx : x < n) (h1 : S.testBit x = true) (h2 : (HN n es x).testBit y = true) : S.testBit y = true := by
  rw [closedB_iff] at h
  have key : ∀ a b : Int, Rch es a b → S.testBit a.toNat = true → S.testBit b.toNat = true := by
    intro a b hr
    induction hr with
    | refl => exact fun h => h
    | step _ e ih => exact fun h3 => h _ e (ih h3)
  have := key x y ((HN_bit hg hx y).1 h2) (by simpa using h1)
  simpa using this
theorem HN_high {n : Nat} {es : List (Int × Int)} (hg : GoodG n es) {x y : Nat} (hx : x < n) (h : (HN n es x).testBit y = true) : y < n := by
  rcases Nat.lt_or_ge y n with h1 | h1
  · exact h1
  · rw [lt_bit (HN_lt hg hx) h1] at h; cases h
theorem closedB_of_hull {n : Nat} {es : List (Int × Int)} (hg : GoodG n es) {S : Nat} (h : ∀ x y, x < n → S.testBit x = true → (HN n es x).testBit y = true → S.testBit y = true) : closedB es S = true := by
  rw [closedB_iff]
  intro e he h1
  obtain ⟨q1, q2, q3, q4⟩ := hg.ins e he
  refine h e.1.toNat e.2.toNat (by omega) h1 ((HN_bit hg (by omega) _).2 ?_)
  refine .step (.refl _) ?_
  rw [Int.toNat_of_nonneg q1, Int.toNat_of_nonneg q3]; exact he

/-! ### Which component can go -/
def okM (n : Nat) (es : List (Int × Int)) (gone i : Nat) : Bool := !gone.testBit i && closedB es (gone ||| compN n es i)
def okP (n : Nat) (es : List (Int × Int)) (gone r : Nat) : Bool := (compN n es r &&& gone == 0) && (andnN (HN n es r) (gone ||| compN n es r) == 0)
structure GoneOK (n : Nat) (es : List (Int × Int)) (gone : Nat) : Prop where
  lt : gone < 2 ^ n
  cl : closedB es gone = true

theorem gone_mut {n : Nat} {es : List (Int × Int)} (hg : GoodG n es) {gone i j : Nat} (h : GoneOK n es gone) (hi : i < n) (hj : j < n) (hm : mutB n es i j = true) : gone.testBit i = gone.testBit j := by
  obtain ⟨h1, h2⟩ := mut_iff.1 hm
  cases h3 : gone.testBit i with
  | true => exact (closedB_hull hg h.cl hi h3 h1).symm
  | false =>
    cases h4 : gone.testBit j with
    | false => rfl
    | true => rw [closedB_hull hg h.cl hj h4 h2] at h3; cases h3
theorem comp_eq {n : Nat} {es : List (Int × Int)} (hg : GoodG n es) {i j : Nat} (hi : i < n) (hj : j < n) (hm : mutB n es i j = true) : compN n es i = compN n es j := by
  refine Nat.eq_of_testBit_eq fun x => ?_
  rw [compN_bit, compN_bit]
  by_cases hx : x < n
  · have hx' : decide (x < n) = true := decide_eq_true hx
    rw [hx', Bool.true_and, Bool.true_and]
    cases h1 : mutB n es i x with
    | true => exact (mut_trans hg hj hi hx (by rw [mut_symm]; exact hm) h1).symm
    | false =>
      cases h2 : mutB n es j x with
      | false => rfl
      | true => rw [mut_trans hg hi hj hx hm h2] at h1; cases h1
  · simp [hx]
theorem ok_eq {n : Nat} {es : List (Int × Int)} (hg : GoodG n es) (hn : n ≤ 64) {gone r : Nat} (h : GoneOK n es gone) (hr : r < n) : okP n es gone r = okM n es gone r := by
  have h64 : HN n es r < 2 ^ 64 := Nat.lt_of_lt_of_le (HN_lt hg hr) (Nat.pow_le_pow_right (by decide) hn)
  have e1 : (compN n es r &&& gone == 0) = !gone.testBit r := by
    cases hb : gone.testBit r with
    | true =>
      show _ = false
      rw [beq_eq_false_iff_ne]
      intro h0
      have := and_zero.1 h0 r (by rw [compN_bit, mut_self hg hr]; simp [hr])
      rw [hb] at this; cases this
    | false =>
      show _ = true
      rw [beq_iff_eq, and_zero]
      intro j hj
      rw [compN_bit, Bool.and_eq_true, decide_eq_true_eq] at hj
      rw [← gone_mut hg h hr hj.1 hj.2]; exact hb
  have e2 : (andnN (HN n es r) (gone ||| compN n es r) == 0) = closedB es (gone ||| compN n es r) := by
    rw [Bool.eq_iff_iff, beq_iff_eq, andnN_zero h64]
    constructor
    · intro h1
      refine closedB_of_hull hg fun x y hx h2 h3 => ?_
      rw [Nat.testBit_or, Bool.or_eq_true] at h2
      rcases h2 with h2 | h2
      · rw [Nat.testBit_or, closedB_hull hg h.cl hx h2 h3]; rfl
      · rw [compN_bit, Bool.and_eq_true, decide_eq_true_eq] at h2
        exact h1 y (HN_trans hg hr hx (mut_iff.1 h2.2).1 h3)
    · intro h1 j hj
      refine closedB_hull hg h1 hr ?_ hj
      rw [Nat.testBit_or, compN_bit, mut_self hg hr]; simp [hr]
  unfold okP okM
  rw [e1, e2]
theorem gone_step {n : Nat} {es : List (Int × Int)} {gone i : Nat} (h : GoneOK n es gone) (ho : okM n es gone i = true) : GoneOK n es (gone ||| compN n es i) := by
  unfold okM at ho
  rw [Bool.and_eq_true] at ho
  exact ⟨Nat.or_lt_two_pow h.lt compN_lt, ho.2⟩
/-- The first one that can go is the first of its component. -/
theorem ok_rep {n : Nat} {es : List (Int × Int)} (hg : GoodG n es) {gone i : Nat} (h : GoneOK n es gone) (hi : i < n) (ho : okM n es gone i = true) (hf : ∀ j, j < i → okM n es gone j = false) : isRep n es i = true := by
  obtain ⟨r, h1, h2, h3⟩ := rep_ex hg hi
  have : okM n es gone r = true := by
    unfold okM at *
    rw [comp_eq hg (by omega) hi h3, gone_mut hg h (by omega) hi h3]; exact ho
  rcases Nat.lt_or_ge r i with h4 | h4
  · rw [hf r h4] at this; cases this
  · rw [show i = r by omega]; exact h2
/-- As long as a node is left, some component can go. -/
theorem ok_ex {n : Nat} {es : List (Int × Int)} (hg : GoodG n es) {gone : Nat} (h : GoneOK n es gone) {x : Nat} (hx : x < n) (hb : gone.testBit x = false) : ∃ i, i < n ∧ okM n es gone i = true := by
  have key : ∀ c x, x < n → gone.testBit x = false → cardN (HN n es x) n ≤ c → ∃ i, i < n ∧ okM n es gone i = true := by
    intro c
    induction c with
    | zero =>
      intro x hx hb hc
      exfalso
      have h0 : ∀ j, (0 : Nat).testBit j = true → (HN n es x).testBit j = true := fun j hj => by rw [Nat.zero_testBit] at hj; cases hj
      have := (cardN_mono h0 n).2 ⟨x, hx, HN_self hg hx, Nat.zero_testBit x⟩
      omega
    | succ c ih =>
      intro x hx hb hc
      by_cases hex : ∃ y, (HN n es x).testBit y = true ∧ gone.testBit y = false ∧ mutB n es x y = false
      · obtain ⟨y, h1, h2, h3⟩ := hex
        have hy := HN_high hg hx h1
        refine ih y hy h2 ?_
        have hsub : ∀ j, (HN n es y).testBit j = true → (HN n es x).testBit j = true := fun j hj => HN_trans hg hx hy h1 hj
        have hnx : (HN n es y).testBit x = false := by
          cases h4 : (HN n es y).testBit x with
          | false => rfl
          | true => rw [mut_iff.2 ⟨h1, h4⟩] at h3; cases h3
        have := (cardN_mono hsub n).2 ⟨x, hx, HN_self hg hx, hnx⟩
        omega
      · refine ⟨x, hx, ?_⟩
        unfold okM
        rw [hb, Bool.not_false, Bool.true_and]
        refine closedB_of_hull hg fun a b ha h1 h2 => ?_
        rw [Nat.testBit_or, Bool.or_eq_true] at h1
        rcases h1 with h1 | h1
        · rw [Nat.testBit_or, closedB_hull hg h.cl ha h1 h2]; rfl
        · rw [compN_bit, Bool.and_eq_true, decide_eq_true_eq] at h1
          have h3 := HN_trans hg hx ha (mut_iff.1 h1.2).1 h2
          rw [Nat.testBit_or, compN_bit]
          cases h4 : gone.testBit b with
          | true => rfl
          | false =>
            cases h5 : mutB n es x b with
            | true => simp [HN_high hg hx h3]
            | false => exact absurd ⟨b, h3, h4, h5⟩ hex
  exact key _ x hx hb (Nat.le_refl _)

/-! ### One after another -/
def pick (n : Nat) (es : List (Int × Int)) (gone : Nat) : Option Nat := (List.range n).find? (okM n es gone)
theorem pick_some {n : Nat} {es : List (Int × Int)} {gone r : Nat} (h : pick n es gone = some r) : r < n ∧ okM n es gone r = true ∧ ∀ j, j < r → okM n es gone j = false := by
  unfold pick at h
  rw [List.find?_range_eq_some] at h
  obtain ⟨h1, h2, h3⟩ := h
  exact ⟨by simpa using h2, h1, fun j hj => by simpa using h3 j hj⟩
theorem pick_none {n : Nat} {es : List (Int × Int)} {gone : Nat} (h : pick n es gone = none) : ∀ j, j < n → okM n es gone j = false := by
  unfold pick at h
  rw [List.find?_range_eq_none] at h
  intro j hj
  simpa using h j hj
def peelSt (n : Nat) (es : List (Int × Int)) : Nat → List Nat × Nat
  | 0 => ([], 0)
  | k + 1 => match pick n es (peelSt n es k).2 with
    | none => peelSt n es k
    | some r => ((peelSt n es k).1 ++ [r], (peelSt n es k).2 ||| compN n es r)
theorem gone_zero (n : Nat) (es : List (Int × Int)) : GoneOK n es 0 := ⟨Nat.pow_pos (by decide), closedB_iff.2 fun e _ h => by rw [Nat.zero_testBit] at h; cases h⟩
theorem peel_ok (n : Nat) (es : List (Int × Int)) : ∀ k, GoneOK n es (peelSt n es k).2
  | 0 => gone_zero n es
  | k + 1 => by
    have ih := peel_ok n es k
    unfold peelSt
    split
    · exact ih
    · rename_i r h
      exact gone_step ih (pick_some h).2.1

theorem filter_out {p : Nat → Bool} {r : Nat} : ∀ {l : List Nat}, l.Nodup → r ∈ l → p r = true → (l.filter fun x => p x && !(x == r)).length + 1 = (l.filter p).length := by
  intro l
  induction l with
  | nil => intro _ h; cases h
  | cons a l ih =>
    intro hn hm hp
    obtain ⟨h1, h2⟩ := List.nodup_cons.1 hn
    by_cases har : a = r
    · subst har
      rw [List.filter_cons_of_neg (by simp), List.filter_cons_of_pos hp, List.length_cons]
      congr 2
      refine List.filter_congr fun x hx => ?_
      have : x ≠ a := fun h => h1 (h ▸ hx)
      simp [this]
    · have hm2 : r ∈ l := by rcases List.mem_cons.1 hm with h | h; exact absurd h.symm har; exact h
      have := ih h2 hm2 hp
      cases hpa : p a with
      | true => rw [List.filter_cons_of_pos (by simp [hpa, har]), List.filter_cons_of_pos hpa, List.length_cons, List.length_cons]; omega
      | false => rw [List.filter_cons_of_neg (by simp [hpa]), List.filter_cons_of_neg (by simp [hpa])]; exact this
/-- How many components are left. -/
def leftN (n : Nat) (es : List (Int × Int)) (gone : Nat) : Nat := ((reps n es n).filter fun r => !gone.testBit r).length
theorem reps_nodup (n : Nat) (es : List (Int × Int)) (k : Nat) : (reps n es k).Nodup := List.Pairwise.filter _ List.nodup_range
theorem left_step {n : Nat} {es : List (Int × Int)} (hg : GoodG n es) {gone r : Nat} (h : GoneOK n es gone) (hp : pick n es gone = some r) : leftN n es (gone ||| compN n es r) + 1 = leftN n es gone := by
  obtain ⟨h1, h2, h3⟩ := pick_some hp
  have hrep := ok_rep hg h h1 h2 h3
  have hb : gone.testBit r = false := by unfold okM at h2; rw [Bool.and_eq_true] at h2; simpa using h2.1
  unfold leftN
  rw [← filter_out (p := fun r => !gone.testBit r) (reps_nodup n es n) (mem_reps.2 ⟨h1, hrep⟩) (by simp [hb])]
  congr 2
  refine List.filter_congr fun x hx => ?_
  obtain ⟨h4, h5⟩ := mem_reps.1 hx
  rw [Nat.testBit_or, compN_bit]
  have hd : decide (x < n) = true := decide_eq_true h4
  rw [hd, Bool.true_and]
  by_cases hxr : x = r
  · subst hxr; rw [mut_self hg h4]; simp
  · have : mutB n es r x = false := by
      cases hm : mutB n es r x with
      | false => rfl
      | true => exact absurd (rep_uniq hg h4 h4 h1 h5 (mut_self hg h4) hrep hm) hxr
    rw [this]; simp [hxr]
theorem left_pick {n : Nat} {es : List (Int × Int)} (hg : GoodG n es) {gone : Nat} (h : GoneOK n es gone) (hl : leftN n es gone ≠ 0) : ∃ r, pick n es gone = some r := by
  unfold leftN at hl
  obtain ⟨r, hr⟩ := List.exists_mem_of_length_pos (Nat.pos_of_ne_zero hl)
  rw [List.mem_filter] at hr
  obtain ⟨i, h1, h2⟩ := ok_ex hg h (mem_reps.1 hr.1).1 (by simpa using hr.2)
  cases hp : pick n es gone with
  | some r => exact ⟨r, rfl⟩
  | none => rw [pick_none hp i h1] at h2; cases h2
theorem left_none {n : Nat} {es : List (Int × Int)} (hg : GoodG n es) {gone : Nat} (h : GoneOK n es gone) (hl : leftN n es gone = 0) : gone = 2 ^ n - 1 := by
  refine Nat.eq_of_testBit_eq fun j => ?_
  rw [Nat.testBit_two_pow_sub_one]
  by_cases hj : j < n
  · rw [decide_eq_true hj]
    obtain ⟨r, h1, h2, h3⟩ := rep_ex hg hj
    rw [← gone_mut hg h (by omega) hj h3]
    cases hb : gone.testBit r with
    | true => rfl
    | false =>
      have : r ∈ (reps n es n).filter fun r => !gone.testBit r := List.mem_filter.2 ⟨mem_reps.2 ⟨by omega, h2⟩, by simp [hb]⟩
      unfold leftN at hl
      rw [List.eq_nil_of_length_eq_zero hl] at this; cases this
  · rw [decide_eq_false hj]; exact lt_bit h.lt (by omega)
theorem pick_full {n : Nat} {es : List (Int × Int)} : pick n es (2 ^ n - 1) = none := by
  unfold pick
  rw [List.find?_range_eq_none]
  intro j hj
  unfold okM
  rw [Nat.testBit_two_pow_sub_one, decide_eq_true hj]; rfl

/-- The number of components. -/
def cN (n : Nat) (es : List (Int × Int)) : Nat := (reps n es n).length
theorem peel_left {n : Nat} {es : List (Int × Int)} (hg : GoodG n es) : ∀ k, k ≤ cN n es → leftN n es (peelSt n es k).2 = cN n es - k ∧ (peelSt n es k).1.length = k := by
  intro k
  induction k with
  | zero =>
    intro _
    refine ⟨?_, rfl⟩
    unfold leftN cN peelSt
    rw [List.filter_eq_self.2 fun x _ => by simp, Nat.sub_zero]
  | succ k ih =>
    intro hk
    obtain ⟨i1, i2⟩ := ih (by omega)
    obtain ⟨r, hr⟩ := left_pick hg (peel_ok n es k) (by omega)
    have := left_step hg (peel_ok n es k) hr
    unfold peelSt
    rw [hr]
    dsimp only
    refine ⟨by omega, ?_⟩
    rw [List.length_append, i2]; rfl
theorem peel_pick {n : Nat} {es : List (Int × Int)} (hg : GoodG n es) {k : Nat} (hk : k < cN n es) : ∃ r, pick n es (peelSt n es k).2 = some r ∧ peelSt n es (k + 1) = ((peelSt n es k).1 ++ [r], (peelSt n es k).2 ||| compN n es r) := by
  obtain ⟨r, hr⟩ := left_pick hg (peel_ok n es k) (by have := (peel_left hg k (by omega)).1; omega)
  refine ⟨r, hr, ?_⟩
  rw [peelSt, hr]
theorem peel_full {n : Nat} {es : List (Int × Int)} (hg : GoodG n es) : (peelSt n es (cN n es)).2 = 2 ^ n - 1 := left_none hg (peel_ok n es _) (by have := (peel_left hg _ (Nat.le_refl _)).1; omega)
theorem peel_take {n : Nat} {es : List (Int × Int)} (hg : GoodG n es) : ∀ k, k ≤ cN n es → ∀ i, i ≤ k → (peelSt n es k).1.take i = (peelSt n es i).1 := by
  intro k
  induction k with
  | zero => intro _ i hi; rw [show i = 0 by omega]; rfl
  | succ k ih =>
    intro hk i hi
    obtain ⟨r, hr, he⟩ := peel_pick hg (k := k) (by omega)
    have hl := (peel_left hg k (by omega)).2
    by_cases hik : i = k + 1
    · subst hik
      have hl2 := (peel_left hg (k + 1) hk).2
      rw [List.take_of_length_le (by omega)]
    · rw [he]
      show List.take i ((peelSt n es k).1 ++ [r]) = _
      rw [List.take_append_of_le_length (by omega)]
      exact ih (by omega) i (by omega)
theorem peel_at {n : Nat} {es : List (Int × Int)} (hg : GoodG n es) {i : Nat} (hi : i < cN n es) : ∃ r, (peelSt n es (cN n es)).1[i]? = some r ∧ r < n ∧ (peelSt n es (i + 1)).2 = (peelSt n es i).2 ||| compN n es r := by
  obtain ⟨r, hr, he⟩ := peel_pick hg hi
  refine ⟨r, ?_, (pick_some hr).1, by rw [he]⟩
  have h1 := peel_take hg _ (Nat.le_refl _) (i + 1) hi
  rw [he] at h1
  have hl := (peel_left hg i (by omega)).2
  have h2 : ((peelSt n es (cN n es)).1.take (i + 1))[i]? = some r := by
    rw [h1, List.getElem?_append_right (by omega), hl, Nat.sub_self]; rfl
  rwa [List.getElem?_take_of_lt (by omega)] at h2
theorem peel_in {n : Nat} {es : List (Int × Int)} : ∀ k, ∀ r ∈ (peelSt n es k).1, r < n
  | 0, r, h => by cases h
  | k + 1, r, h => by
    have ih := peel_in (n := n) (es := es) k
    unfold peelSt at h
    split at h
    · exact ih r h
    · rename_i x hx
      rcases List.mem_append.1 h with h | h
      · exact ih r h
      · rw [List.mem_singleton.1 h]; exact (pick_some hx).1
end Go.Ev

/- The model: closed, component. -/
namespace Go.Ev
open Go Go.Proofs
set_option linter.unusedSimpArgs false
set_option linter.unusedVariables false
set_option maxRecDepth 100000
set_option maxHeartbeats 4000000
attribute [local irreducible] wpOps wpC wpD wpF wpLoop wpCall seqK blockK loopK retK T.put T.get T.setF

theorem bit_eq0 (a k : Nat) : ((((a >>> k) &&& 1 : Nat) : Int) == 0) = !a.testBit k := by
  have h := bit_eq a k
  have h2 : 1 &&& (a >>> k) = 0 ∨ 1 &&& (a >>> k) = 1 := by
    have : 1 &&& (a >>> k) ≤ 1 := Nat.and_le_left
    omega
  rw [Nat.and_comm] at h2
  rw [← h]
  rcases h2 with h2 | h2 <;> rw [h2] <;> rfl
theorem closedB_take {es : List (Int × Int)} {a k : Nat} (hk : k < es.length) : closedB (es.take (k + 1)) a = (closedB (es.take k) a && !(a.testBit es[k].1.toNat && !a.testBit es[k].2.toNat)) := by
  unfold closedB
  rw [List.take_succ_eq_append_getElem hk, List.all_append]
  simp
theorem closedB_not {es : List (Int × Int)} {a k : Nat} (hk : k < es.length) (h1 : a.testBit es[k].1.toNat = true) (h2 : a.testBit es[k].2.toNat = false) : closedB es a = false := by
  cases h : closedB es a with
  | false => rfl
  | true => rw [closedB_iff.1 h _ (List.getElem_mem hk) h1] at h2; cases h2

theorem f17_spec [Sorts Tryd.prog] (n : Int) (es : List (Int × Int)) (ev : Value) (a : Nat) (s : HS) (hs : Sl s 2 ev (es.map encE)) (hg : GoodG n es) (ha : a < 2 ^ 62) :
    wpF Tryd.prog s.nx 17 [vG n ev, .int .i64 a] s (fun v s' => v = .bool (closedB es a)) := by
  have ha3 : a < 2 ^ 63 := Nat.lt_trans ha (by decide)
  obtain ⟨b, c, rfl⟩ := hs.shape
  obtain ⟨hn0, hn1, hlen, hins⟩ := hg
  refine wpF_of Tryd.func17 rfl rfl rfl rfl (Nat.le_refl _) ?_
  simp only [paramsA, vG]
  repeat (first
  | with_reducible first | refine st (by constructor) ?_ | apply c_region
  | (with_reducible apply k_block_on
     · decide)
  | ((with_reducible first | apply xOp | apply xDr | apply xIf); rfl; (simp only [Nat.reduceEqDiff, Nat.reduceAdd, ↓reduceIte, xBB, stG, undef, opA, val, opdA, opdO, plainN, omap, binA, intBinA, loadV, readA, storeV, writeA, fieldAddrA, indexAddrA, lenA, builtinA, newA, unA, packA, Value.cells]; rfl); first | rfl | exact ⟨rfl, rfl, rfl⟩))
  have hA0 := Ab.new (lk := s.nx) s (.cells true 28 [.int .i64 n, .slice b (es.map encE).length c])
  have hs1 := hs.keep hA0
  refine loop_k (lk' := s.nx + 1) (s0 := ⟨_, s.nx + 1⟩) (fun m f t => ∃ k : Nat, k + m = es.length ∧ f.get 5 = some (.int .i64 k) ∧ closedB (es.take k) a = true) es.length (Nat.le_succ _) (Nat.le_refl _) ?_ (Ab.refl _ _) ?_
  · exact ⟨0, by omega, by simp only [Nat.reduceEqDiff, T.get_put, ↓reduceIte]; rfl, rfl⟩
  · rintro m f t ⟨k, hk, h5, hcl⟩ hA hF
    (have k1 := hF 1 (by rfl); simp only [Nat.reduceEqDiff, T.get_put, ↓reduceIte] at k1; have k2 := hF 2 (by rfl); simp only [Nat.reduceEqDiff, T.get_put, ↓reduceIte] at k2)
    have hbox := hA.get (Nat.le_refl _) (Nat.lt_succ_self s.nx)
    rw [T.get_put_eq] at hbox
    have hst := hs1.keep hA
    have hnx := hA.nx
    dsimp only at hnx
    have hc1 : cutL [Value.int .i64 n, Value.slice b (es.map encE).length c] (0 + 1) 1 = some [Value.slice b (es.map encE).length c] := rfl
    by_cases hlt : (k : Int) < ((es.map encE).length : Int)
    · have hjl' : k < es.length := by simp at hlt; omega
      obtain ⟨id, off, wr, e, cs, rfl, g1, g2, g3, g4⟩ := hst.at (i := k) (x := encE es[k]) (by simp [hjl'])
      have hb : (0 : Int) ≤ (k : Int) ∧ (k : Int) < ((es.map encE).length : Int) := ⟨by omega, hlt⟩
      have hw : IntKind.i64.wrap ((k : Int) + 1) = ((k + 1 : Nat) : Int) := by rw [IntWalk.i64_in _ (by omega)]; rfl
      obtain ⟨q1, q2, q3, q4⟩ := hins es[k] (List.getElem_mem hjl')
      obtain ⟨x, hx⟩ : ∃ x : Nat, es[k].1 = (x : Int) := ⟨es[k].1.toNat, by omega⟩
      obtain ⟨y, hy⟩ : ∃ y : Nat, es[k].2 = (y : Int) := ⟨es[k].2.toNat, by omega⟩
      simp only [encE, hx, hy] at g3
      obtain ⟨p3, p4⟩ := cut_pair g3
      rw [Nat.add_assoc] at p4
      have hsh := shr_i64 (a := a) (k := x) ha3
      have hand := and_one (a := a >>> x) (shr_lt ha3)
      have hbit := bit_eq a x
      have hsh2 := shr_i64 (a := a) (k := y) ha3
      have hand2 := and_one (a := a >>> y) (shr_lt ha3)
      have hbit2 := bit_eq0 a y
      have hnext := closedB_take (a := a) hjl'
      rw [hcl, hx, hy, Int.toNat_natCast, Int.toNat_natCast, Bool.true_and] at hnext
      cases hb1 : a.testBit x with
      | false =>
        repeat (first
  | with_reducible first | refine st (by constructor) ?_ | apply c_region
  | (with_reducible apply k_block_on
     · decide)
  | ((with_reducible first | apply xOp | apply xDr | apply xIf); rfl; (simp only [Nat.reduceEqDiff, Nat.reduceAdd, ↓reduceIte, xBB, stG, undef, opA, val, opdA, opdO, plainN, omap, binA, intBinA, loadV, readA, storeV, writeA, fieldAddrA, indexAddrA, lenA, builtinA, newA, unA, packA, Value.cells, h5, k1, k2, fd28_1, ty26, hbox, hc1, un26, hlt, sz58, hb, fd58_0, fd58_1, ty3, g1, p3, p4, hsh, hand, hbit, hb1, hw]; rfl); first | rfl | exact ⟨rfl, rfl, rfl⟩))
        intro _ _
        exact k_loop_next (m' := m - 1) (by omega) ⟨k + 1, by omega, by simp only [Nat.reduceEqDiff, T.get_put, ↓reduceIte], by rw [hnext, hb1]; rfl⟩
      | true =>
        cases hb2 : a.testBit y with
        | true =>
          repeat (first
  | with_reducible first | refine st (by constructor) ?_ | apply c_region
  | (with_reducible apply k_block_on
     · decide)
  | ((with_reducible first | apply xOp | apply xDr | apply xIf); rfl; (simp only [Nat.reduceEqDiff, Nat.reduceAdd, ↓reduceIte, xBB, stG, undef, opA, val, opdA, opdO, plainN, omap, binA, intBinA, loadV, readA, storeV, writeA, fieldAddrA, indexAddrA, lenA, builtinA, newA, unA, packA, Value.cells, h5, k1, k2, fd28_1, ty26, hbox, hc1, un26, hlt, sz58, hb, fd58_0, fd58_1, ty3, g1, p3, p4, hsh, hand, hbit, hb1, hsh2, hand2, hbit2, hb2, Bool.not_true, Bool.not_false, hw]; rfl); first | rfl | exact ⟨rfl, rfl, rfl⟩))
          intro _ _
          exact k_loop_next (m' := m - 1) (by omega) ⟨k + 1, by omega, by simp only [Nat.reduceEqDiff, T.get_put, ↓reduceIte], by rw [hnext, hb1, hb2]; rfl⟩
        | false =>
          repeat (first
  | with_reducible first | refine st (by constructor) ?_ | apply c_region
  | (with_reducible apply k_block_on
     · decide)
  | ((with_reducible first | apply xOp | apply xDr | apply xIf); rfl; (simp only [Nat.reduceEqDiff, Nat.reduceAdd, ↓reduceIte, xBB, stG, undef, opA, val, opdA, opdO, plainN, omap, binA, intBinA, loadV, readA, storeV, writeA, fieldAddrA, indexAddrA, lenA, builtinA, newA, unA, packA, Value.cells, h5, k1, k2, fd28_1, ty26, hbox, hc1, un26, hlt, sz58, hb, fd58_0, fd58_1, ty3, g1, p3, p4, hsh, hand, hbit, hb1, hsh2, hand2, hbit2, hb2, Bool.not_true, Bool.not_false, hw]; rfl); first | rfl | exact ⟨rfl, rfl, rfl⟩))
          intro _ _
          repeat (first
  | with_reducible first | refine st (by constructor) ?_ | apply c_region
  | (with_reducible apply k_block_on
     · decide)
  | ((with_reducible first | apply xOp | apply xDr | apply xIf); rfl; (simp only [Nat.reduceEqDiff, Nat.reduceAdd, ↓reduceIte, xBB, stG, undef, opA, val, opdA, opdO, plainN, omap, binA, intBinA, loadV, readA, storeV, writeA, fieldAddrA, indexAddrA, lenA, builtinA, newA, unA, packA, Value.cells]; rfl); first | rfl | exact ⟨rfl, rfl, rfl⟩))
          intro _
          ((with_reducible first | apply ret_i | apply ret_n); (simp only [Nat.reduceEqDiff, Nat.reduceAdd, ↓reduceIte, xBB, resA, opdA, opdO, plainN, omap, val, loadV, readA, packA]; rfl))
          rw [closedB_not hjl' (by rw [hx, Int.toNat_natCast]; exact hb1) (by rw [hy, Int.toNat_natCast]; exact hb2)]
          rfl
    · repeat (first
  | with_reducible first | refine st (by constructor) ?_ | apply c_region
  | (with_reducible apply k_block_on
     · decide)
  | ((with_reducible first | apply xOp | apply xDr | apply xIf); rfl; (simp only [Nat.reduceEqDiff, Nat.reduceAdd, ↓reduceIte, xBB, stG, undef, opA, val, opdA, opdO, plainN, omap, binA, intBinA, loadV, readA, storeV, writeA, fieldAddrA, indexAddrA, lenA, builtinA, newA, unA, packA, Value.cells, h5, k2, fd28_1, ty26, hbox, hc1, un26, hlt]; rfl); first | rfl | exact ⟨rfl, rfl, rfl⟩))
      intro _ _
      repeat (first
  | with_reducible first | refine st (by constructor) ?_ | apply c_region
  | (with_reducible apply k_block_on
     · decide)
  | ((with_reducible first | apply xOp | apply xDr | apply xIf); rfl; (simp only [Nat.reduceEqDiff, Nat.reduceAdd, ↓reduceIte, xBB, stG, undef, opA, val, opdA, opdO, plainN, omap, binA, intBinA, loadV, readA, storeV, writeA, fieldAddrA, indexAddrA, lenA, builtinA, newA, unA, packA, Value.cells]; rfl); first | rfl | exact ⟨rfl, rfl, rfl⟩))
      intro _
      ((with_reducible first | apply ret_i | apply ret_n); (simp only [Nat.reduceEqDiff, Nat.reduceAdd, ↓reduceIte, xBB, resA, opdA, opdO, plainN, omap, val, loadV, readA, packA]; rfl))
      rw [List.take_of_length_le (by simp at hlt; omega)] at hcl
      rw [hcl]
      rfl

theorem f16_spec [Sorts Tryd.prog] (n : Nat) (es : List (Int × Int)) (ev : Value) (i : Nat) (s : HS) (hs : Sl s 2 ev (es.map encE)) (hg : GoodG n es) (hn : n < 62) (hi : i < n) :
    wpF Tryd.prog s.nx 16 [vG n ev, .int .i64 i] s (fun v s' => v = .int .i64 (compN n es i)) := by
  refine wpF_of Tryd.func16 rfl rfl rfl rfl (Nat.le_refl _) ?_
  simp only [paramsA, vG]
  repeat (first
  | with_reducible first | refine st (by constructor) ?_ | apply c_region
  | (with_reducible apply k_block_on
     · decide)
  | ((with_reducible first | apply xOp | apply xDr | apply xIf); rfl; (simp only [Nat.reduceEqDiff, Nat.reduceAdd, ↓reduceIte, xBB, stG, undef, opA, val, opdA, opdO, plainN, omap, binA, intBinA, loadV, readA, storeV, writeA, fieldAddrA, indexAddrA, lenA, builtinA, newA, unA, packA, Value.cells]; rfl); first | rfl | exact ⟨rfl, rfl, rfl⟩))
  have hA0 := Ab.new (lk := s.nx) s (.cells true 28 [.int .i64 n, ev])
  have hs1 := hs.keep hA0
  refine loop_k (lk' := s.nx + 1) (s0 := ⟨_, s.nx + 1⟩) (fun m f t => ∃ k : Nat, k + m = n ∧ f.get 6 = some (.int .i64 k) ∧ f.get 5 = some (.int .i64 (compS n es i k))) n (Nat.le_succ _) (Nat.le_refl _) ?_ (Ab.refl _ _) ?_
  · exact ⟨0, by omega, by simp only [Nat.reduceEqDiff, T.get_put, ↓reduceIte]; rfl, by simp only [Nat.reduceEqDiff, T.get_put, ↓reduceIte]; rfl⟩
  · rintro m f t ⟨k, hk, h6, h5⟩ hA hF
    (have k1 := hF 1 (by rfl); simp only [Nat.reduceEqDiff, T.get_put, ↓reduceIte] at k1; have k2 := hF 2 (by rfl); simp only [Nat.reduceEqDiff, T.get_put, ↓reduceIte] at k2)
    have hbox := hA.get (Nat.le_refl _) (Nat.lt_succ_self s.nx)
    rw [T.get_put_eq] at hbox
    have hst := hs1.keep hA
    have hnx := hA.nx
    dsimp only at hnx
    have hc0 : cutL [Value.int .i64 (n : Int), ev] 0 1 = some [Value.int .i64 n] := rfl
    have hc2 : cutL [Value.int .i64 (n : Int), ev] 0 2 = some [Value.int .i64 n, ev] := rfl
    by_cases hlt : (k : Int) < (n : Int)
    · have hkn : k < n := by omega
      have hw : IntKind.i64.wrap ((k : Int) + 1) = ((k + 1 : Nat) : Int) := by rw [IntWalk.i64_in _ (by omega)]; rfl
      have hshl := shl_i64 (k := i) (by omega)
      have hshl2 := shl_i64 (k := k) (by omega)
      have hH3 : HN n es i < 2 ^ 63 := Nat.lt_of_lt_of_le (HN_lt hg hi) (Nat.pow_le_pow_right (by decide) (by omega))
      have hK3 : HN n es k < 2 ^ 63 := Nat.lt_of_lt_of_le (HN_lt hg hkn) (Nat.pow_le_pow_right (by decide) (by omega))
      have hsh := shr_i64 (a := HN n es i) (k := k) hH3
      have hand := and_one (a := HN n es i >>> k) (shr_lt hH3)
      have hbit := bit_eq (HN n es i) k
      have hsh2 := shr_i64 (a := HN n es k) (k := i) hK3
      have hand2 := and_one (a := HN n es k >>> i) (shr_lt hK3)
      have hbit2 := bit_eq (HN n es k) i
      repeat (first
  | with_reducible first | refine st (by constructor) ?_ | apply c_region
  | (with_reducible apply k_block_on
     · decide)
  | ((with_reducible first | apply xOp | apply xDr | apply xIf); rfl; (simp only [Nat.reduceEqDiff, Nat.reduceAdd, ↓reduceIte, xBB, stG, undef, opA, val, opdA, opdO, plainN, omap, binA, intBinA, loadV, readA, storeV, writeA, fieldAddrA, indexAddrA, lenA, builtinA, newA, unA, packA, Value.cells, h6, k2, fd28_0, ty3, hbox, hc0, hlt]; rfl); first | rfl | exact ⟨rfl, rfl, rfl⟩))
      refine c_draw [⟨true, [], none⟩, ⟨false, [], none⟩, ⟨false, [], none⟩, ⟨true, [], none⟩, ⟨false, [], none⟩, ⟨true, [], none⟩, ⟨true, [], none⟩, ⟨true, [], none⟩, ⟨true, [], none⟩, ⟨true, [], none⟩, ⟨false, [], none⟩, ⟨false, [], none⟩, ⟨true, [], none⟩, ⟨false, [], none⟩, ⟨true, [], none⟩, ⟨true, [], none⟩, ⟨true, [], none⟩, ⟨true, [], none⟩] (by kernel_rfl) ?_
      repeat (first
  | with_reducible first | refine st (by constructor) ?_ | apply c_region
  | (with_reducible apply k_block_on
     · decide)
  | ((with_reducible first | apply xOp | apply xDr | apply xIf); rfl; (simp only [Nat.reduceEqDiff, Nat.reduceAdd, ↓reduceIte, xBB, stG, undef, opA, val, opdA, opdO, plainN, omap, binA, intBinA, loadV, readA, storeV, writeA, fieldAddrA, indexAddrA, lenA, builtinA, newA, unA, packA, Value.cells, k1, k2, ty28, hbox, hc2, hshl]; rfl); first | rfl | exact ⟨rfl, rfl, rfl⟩))
      ((with_reducible first | apply xCa | apply xCd); rfl; (simp only [Nat.reduceEqDiff, Nat.reduceAdd, ↓reduceIte, xBB, stB, opdA, opdO, plainN, omap, val, Value.cells]; exact ⟨rfl, rfl⟩); try rfl)
      apply call_fn
      refine (f22_spec n es ev (2 ^ i) t hst hg (by omega) (Nat.pow_lt_pow_right (by decide) (by omega))).use (by first | exact Nat.le_refl _ | (simp only [cond_true, cond_false]; omega) | omega | (dsimp only; omega)) (by first | exact Nat.le_refl _ | (simp only [cond_true, cond_false]; omega) | omega | (dsimp only; omega)) fun v t1 hv hA1 => ?_
      subst hv
      rw [Int.toNat_natCast, show hullN es n (2 ^ i) = HN n es i from rfl]
      have hnx1 := hA1.nx
      have hbox1 := (hA1.get (Nat.le_refl _) (by omega)).trans hbox
      refine opt_of rfl ?_
      cases hb1 : (HN n es i).testBit k with
      | false =>
        have hm : mutB n es i k = false := by unfold mutB; rw [hb1]; rfl
        repeat (first
  | with_reducible first | refine st (by constructor) ?_ | apply c_region
  | (with_reducible apply k_block_on
     · decide)
  | ((with_reducible first | apply xOp | apply xDr | apply xIf); rfl; (simp only [Nat.reduceEqDiff, Nat.reduceAdd, ↓reduceIte, xBB, stG, undef, opA, val, opdA, opdO, plainN, omap, binA, intBinA, loadV, readA, storeV, writeA, fieldAddrA, indexAddrA, lenA, builtinA, newA, unA, packA, Value.cells, h6, hsh, hand, hbit, hb1, hw]; rfl); first | rfl | exact ⟨rfl, rfl, rfl⟩))
        intro _ _
        refine k_loop_next (m' := m - 1) (by omega) ⟨k + 1, by omega, by simp only [Nat.reduceEqDiff, T.get_put, ↓reduceIte], ?_⟩
        simp only [Nat.reduceEqDiff, T.get_put, ↓reduceIte]
        rw [compS, hm]; exact h5
      | true =>
        repeat (first
  | with_reducible first | refine st (by constructor) ?_ | apply c_region
  | (with_reducible apply k_block_on
     · decide)
  | ((with_reducible first | apply xOp | apply xDr | apply xIf); rfl; (simp only [Nat.reduceEqDiff, Nat.reduceAdd, ↓reduceIte, xBB, stG, undef, opA, val, opdA, opdO, plainN, omap, binA, intBinA, loadV, readA, storeV, writeA, fieldAddrA, indexAddrA, lenA, builtinA, newA, unA, packA, Value.cells, h6, hsh, hand, hbit, hb1, k2, ty28, hbox1, hc2, hshl2]; rfl); first | rfl | exact ⟨rfl, rfl, rfl⟩))
        ((with_reducible first | apply xCa | apply xCd); rfl; (simp only [Nat.reduceEqDiff, Nat.reduceAdd, ↓reduceIte, xBB, stB, opdA, opdO, plainN, omap, val, Value.cells]; exact ⟨rfl, rfl⟩); try rfl)
        apply call_fn
        refine (f22_spec n es ev (2 ^ k) t1 (hst.keep hA1) hg (by omega) (Nat.pow_lt_pow_right (by decide) (by omega))).use (by first | exact Nat.le_refl _ | (simp only [cond_true, cond_false]; omega) | omega | (dsimp only; omega)) (by first | exact Nat.le_refl _ | (simp only [cond_true, cond_false]; omega) | omega | (dsimp only; omega)) fun v t2 hv hA2 => ?_
        subst hv
        rw [Int.toNat_natCast, show hullN es n (2 ^ k) = HN n es k from rfl]
        refine opt_of rfl ?_
        cases hb2 : (HN n es k).testBit i with
        | false =>
          have hm : mutB n es i k = false := by unfold mutB; rw [hb1, hb2]; rfl
          repeat (first
  | with_reducible first | refine st (by constructor) ?_ | apply c_region
  | (with_reducible apply k_block_on
     · decide)
  | ((with_reducible first | apply xOp | apply xDr | apply xIf); rfl; (simp only [Nat.reduceEqDiff, Nat.reduceAdd, ↓reduceIte, xBB, stG, undef, opA, val, opdA, opdO, plainN, omap, binA, intBinA, loadV, readA, storeV, writeA, fieldAddrA, indexAddrA, lenA, builtinA, newA, unA, packA, Value.cells, k1, h6, hsh2, hand2, hbit2, hb2, hw]; rfl); first | rfl | exact ⟨rfl, rfl, rfl⟩))
          intro _ _
          refine k_loop_next (m' := m - 1) (by omega) ⟨k + 1, by omega, by simp only [Nat.reduceEqDiff, T.get_put, ↓reduceIte], ?_⟩
          simp only [Nat.reduceEqDiff, T.get_put, ↓reduceIte]
          rw [compS, hm]; exact h5
        | true =>
          have hm : mutB n es i k = true := by unfold mutB; rw [hb1, hb2]; rfl
          have hS3 : compS n es i k < 2 ^ 63 := Nat.lt_of_lt_of_le (compS_lt k) (Nat.pow_le_pow_right (by decide) (by omega))
          have hor := or_i64 (a := compS n es i k) (b := 2 ^ k) hS3 (Nat.pow_lt_pow_right (by decide) (by omega))
          repeat (first
  | with_reducible first | refine st (by constructor) ?_ | apply c_region
  | (with_reducible apply k_block_on
     · decide)
  | ((with_reducible first | apply xOp | apply xDr | apply xIf); rfl; (simp only [Nat.reduceEqDiff, Nat.reduceAdd, ↓reduceIte, xBB, stG, undef, opA, val, opdA, opdO, plainN, omap, binA, intBinA, loadV, readA, storeV, writeA, fieldAddrA, indexAddrA, lenA, builtinA, newA, unA, packA, Value.cells, k1, h5, h6, hsh2, hand2, hbit2, hb2, hshl2, hor, hw]; rfl); first | rfl | exact ⟨rfl, rfl, rfl⟩))
          intro _ _
          refine k_loop_next (m' := m - 1) (by omega) ⟨k + 1, by omega, by simp only [Nat.reduceEqDiff, T.get_put, ↓reduceIte], ?_⟩
          simp only [Nat.reduceEqDiff, T.get_put, ↓reduceIte]
          rw [compS, hm]; rfl
    · repeat (first
  | with_reducible first | refine st (by constructor) ?_ | apply c_region
  | (with_reducible apply k_block_on
     · decide)
  | ((with_reducible first | apply xOp | apply xDr | apply xIf); rfl; (simp only [Nat.reduceEqDiff, Nat.reduceAdd, ↓reduceIte, xBB, stG, undef, opA, val, opdA, opdO, plainN, omap, binA, intBinA, loadV, readA, storeV, writeA, fieldAddrA, indexAddrA, lenA, builtinA, newA, unA, packA, Value.cells, h6, k2, fd28_0, ty3, hbox, hc0, hlt]; rfl); first | rfl | exact ⟨rfl, rfl, rfl⟩))
      intro _ _
      repeat (first
  | with_reducible first | refine st (by constructor) ?_ | apply c_region
  | (with_reducible apply k_block_on
     · decide)
  | ((with_reducible first | apply xOp | apply xDr | apply xIf); rfl; (simp only [Nat.reduceEqDiff, Nat.reduceAdd, ↓reduceIte, xBB, stG, undef, opA, val, opdA, opdO, plainN, omap, binA, intBinA, loadV, readA, storeV, writeA, fieldAddrA, indexAddrA, lenA, builtinA, newA, unA, packA, Value.cells, h5]; rfl); first | rfl | exact ⟨rfl, rfl, rfl⟩))
      intro _
      ((with_reducible first | apply ret_i | apply ret_n); (simp only [Nat.reduceEqDiff, Nat.reduceAdd, ↓reduceIte, xBB, resA, opdA, opdO, plainN, omap, val, loadV, readA, packA]; rfl))
      have hkn : k = n := by omega
      subst hkn; rfl
end Go.Ev
