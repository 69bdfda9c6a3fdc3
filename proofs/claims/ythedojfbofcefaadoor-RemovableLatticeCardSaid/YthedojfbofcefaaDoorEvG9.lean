import Derived.Test.YthedojfbofcefaaDoorEvBfs
import Derived.Test.YthedojfbofcefaaDoorEvG1
/- graph.reach. -/
namespace Go.Ev
open Go Go.Proofs
set_option linter.unusedSimpArgs false
set_option linter.unusedVariables false
set_option maxRecDepth 100000
set_option maxHeartbeats 4000000
attribute [local irreducible] wpOps wpC wpD wpF wpLoop wpCall seqK blockK loopK retK T.put T.get T.setF

theorem f59_spec [Sorts Tryd.prog] (n : Int) (es : List (Int × Int)) (ev : Value) (l : List Int) (lv : Value) (s : HS) (hs : Sl s 2 ev (es.map encE)) (hl : Sl s 1 lv (l.map encI)) (hg : GoodG n es) (hll : l.length < 1000000) (hin : ∀ x ∈ l, 0 ≤ x ∧ x < n) :
    wpF Tryd.prog s.nx 59 [vG n ev, lv] s (fun v s' => ∃ (o : Nat) (seen : List Bool), s.nx ≤ o ∧ Own s' 4 1 (some o) v (seen.map encB) ∧ seen.length = n.toNat ∧ ∀ x, Mk seen x ↔ ∃ f ∈ l, Rch es f x) := by
  obtain ⟨b, c, rfl⟩ := hl.shape
  refine wpF_of Tryd.func59 rfl rfl rfl rfl (Nat.le_refl _) ?_
  simp only [paramsA, vG]
  repeat (first
  | with_reducible first | refine st (by constructor) ?_ | apply c_region
  | (with_reducible apply k_block_on
     · decide)
  | ((with_reducible first | apply xOp | apply xDr | apply xIf); rfl; (simp only [Nat.reduceEqDiff, Nat.reduceAdd, ↓reduceIte, xBB, stG, undef, opA, val, opdA, opdO, plainN, omap, binA, intBinA, loadV, readA, storeV, writeA, fieldAddrA, indexAddrA, lenA, builtinA, newA, unA, packA, Value.cells]; rfl); first | rfl | exact ⟨rfl, rfl, rfl⟩))
  have hA0 := Ab.new (lk := s.nx) s (.cells true 28 [.int .i64 n, ev])
  refine c_draw [⟨false, [], none⟩, ⟨false, [], none⟩, ⟨false, [], none⟩, ⟨false, [0, 1], none⟩, ⟨false, [0, 1], none⟩, ⟨false, [], none⟩, ⟨true, [], none⟩] (by kernel_rfl) ?_
  repeat (first
  | with_reducible first | refine st (by constructor) ?_ | apply c_region
  | (with_reducible apply k_block_on
     · decide)
  | ((with_reducible first | apply xOp | apply xDr | apply xIf); rfl; (simp only [Nat.reduceEqDiff, Nat.reduceAdd, ↓reduceIte, xBB, stG, undef, opA, val, opdA, opdO, plainN, omap, binA, intBinA, loadV, readA, storeV, writeA, fieldAddrA, indexAddrA, lenA, builtinA, newA, unA, packA, Value.cells, ty28]; rfl); first | rfl | exact ⟨rfl, rfl, rfl⟩))
  ((with_reducible first | apply xCa | apply xCd); rfl; (simp only [Nat.reduceEqDiff, Nat.reduceAdd, ↓reduceIte, xBB, stB, opdA, opdO, plainN, omap, val, Value.cells]; exact ⟨rfl, rfl⟩); try rfl)
  apply call_fn
  refine (f69_spec n es ev _ (hs.keep hA0) hg).use (by first | exact Nat.le_refl _ | (simp only [cond_true, cond_false]; omega) | omega | (dsimp only; omega)) (by first | exact Nat.le_refl _ | (simp only [cond_true, cond_false]; omega) | omega | (dsimp only; omega)) fun v s1 hv hA1 => ?_
  obtain ⟨ob, rs, hob0, hob, hrows, hrl, hxs⟩ := hv
  dsimp only at hob0
  have hn1 := hA1.nx
  dsimp only at hn1
  have hbox := hA1.get (Nat.le_refl _) (Nat.lt_succ_self s.nx)
  rw [T.get_put_eq] at hbox
  refine opt_of rfl ?_
  repeat (first
  | with_reducible first | refine st (by constructor) ?_ | apply c_region
  | (with_reducible apply k_block_on
     · decide)
  | ((with_reducible first | apply xOp | apply xDr | apply xIf); rfl; (simp only [Nat.reduceEqDiff, Nat.reduceAdd, ↓reduceIte, xBB, stG, undef, opA, val, opdA, opdO, plainN, omap, binA, intBinA, loadV, readA, storeV, writeA, fieldAddrA, indexAddrA, lenA, builtinA, newA, unA, packA, Value.cells, fd28_0]; rfl); first | rfl | exact ⟨rfl, rfl, rfl⟩))
  (first
      | (with_reducible apply d_lowS (lo := s.nx + 1)
         · rfl
         · rfl
         · rfl
         · (intro m hm hmm; simp only [List.mem_cons, List.not_mem_nil, or_false] at hm; first | (obtain rfl := hm; dsimp only; omega) | (rcases hm with rfl | rfl <;> first | omega | (dsimp only; omega) | (exfalso; revert hmm; decide)) | (rcases hm with rfl | rfl | rfl <;> first | omega | (dsimp only; omega) | (exfalso; revert hmm; decide)))
         · (intro sh hshn hshg; have l_hbox := (hshg _ (by omega)).trans hbox; simp only [Nat.reduceEqDiff, opA, val, opdA, opdO, T.get_put, ↓reduceIte, Nat.add_assoc, Nat.reduceAdd, Nat.left_eq_add, Nat.add_eq_left, Nat.add_left_cancel_iff, Nat.add_zero, plainN, omap, Option.map_some, Option.bind_some, Nat.le_add_right, Nat.le_refl, binA, intBinA, loadV, readA, storeV, writeA, fieldAddrA, indexAddrA, lenA, builtinA, newA, unA, packA, if_true, and_self, and_true, true_and, Value.cells, Int.toNat_natCast, decide_true, decide_false, cond_true, cond_false, ty3, l_hbox]; rfl)
         · rfl))
  intro s2 h2n h2g
  have hA2 : Ab s1.nx s1 s2 := Ab.ofEq h2n h2g
  have hmk : ∀ s : HS, makeSliceA Tryd.prog 95 (.int .i64 n) (.int .i64 n) s = some (.slice (some ⟨s.nx, 0, none⟩) n.toNat n.toNat, { hp := s.hp.put s.nx (some (.cells true 4 (zerosL [.bool false] n.toNat))), nx := s.nx + 1 }) := fun s => by
    obtain ⟨_, _, _, _⟩ := hg
    unfold makeSliceA
    simp only [el95, sz4, by4, zr4, Option.bind_some]
    rw [if_pos ⟨rfl, by decide, by omega, Int.le_refl _, by omega, by omega⟩]
    rfl
  refine d_low (lo := 0) rfl rfl rfl (by (intro m hm hmm; simp only [List.mem_cons, List.not_mem_nil, or_false] at hm; first | (obtain rfl := hm; dsimp only; omega) | (rcases hm with rfl | rfl <;> first | omega | (dsimp only; omega) | (exfalso; revert hmm; decide)) | (rcases hm with rfl | rfl | rfl <;> first | omega | (dsimp only; omega) | (exfalso; revert hmm; decide)))) fun sh hshn hshg => ?_
  refine ⟨_, by (simp only [Nat.reduceEqDiff, opA, val, opdA, opdO, T.get_put, ↓reduceIte, Nat.add_assoc, Nat.reduceAdd, Nat.left_eq_add, Nat.add_eq_left, Nat.add_left_cancel_iff, Nat.add_zero, plainN, omap, Option.map_some, Option.bind_some, Nat.le_add_right, Nat.le_refl, binA, intBinA, loadV, readA, storeV, writeA, fieldAddrA, indexAddrA, lenA, builtinA, newA, unA, packA, if_true, and_self, and_true, true_and, Value.cells, Int.toNat_natCast, decide_true, decide_false, cond_true, cond_false, hmk]; rfl), ?_⟩
  refine opt_of rfl ?_
  intro s3 hA3 h3n h3g
  dsimp only at h3n h3g
  have hseen3 : s3.hp.get s1.nx = some (.cells true 4 (zerosL [.bool false] n.toNat)) := by
    rw [h3g _ (by omega), T.get_put, if_pos (by omega)]
  have hA13 : Ab s1.nx s1 s3 := hA2.trans (hA3.lower (by omega) (by omega))
  have hA03 : Ab s.nx s s3 := hA0.trans ((hA1.lower (Nat.le_succ _) (Nat.le_refl _)).trans (hA13.lower (by omega) (Nat.le_refl _)))
  refine opt_of rfl ?_
  repeat (first
  | with_reducible first | refine st (by constructor) ?_ | apply c_region
  | (with_reducible apply k_block_on
     · decide)
  | ((with_reducible first | apply xOp | apply xDr | apply xIf); rfl; (simp only [Nat.reduceEqDiff, Nat.reduceAdd, ↓reduceIte, xBB, stG, undef, opA, val, opdA, opdO, plainN, omap, binA, intBinA, loadV, readA, storeV, writeA, fieldAddrA, indexAddrA, lenA, builtinA, newA, unA, packA, Value.cells]; rfl); first | rfl | exact ⟨rfl, rfl, rfl⟩))
  ((with_reducible first | apply xCa | apply xCd); rfl; (simp only [Nat.reduceEqDiff, Nat.reduceAdd, ↓reduceIte, xBB, stB, opdA, opdO, plainN, omap, val, Value.cells]; exact ⟨rfl, rfl⟩); try rfl)
  apply call_fn
  refine (f70_spec l _ s3 (hl.keep hA03) (by omega)).use hA03.nx (Nat.le_refl _) fun v4 s4 hv hA4 => ?_
  obtain ⟨oq, hoq, hnq⟩ := hv
  obtain ⟨qb, qc, rfl⟩ := hoq.shape
  have hn4 := hA4.nx
  have hseen4 : s4.hp.get s1.nx = some (.cells true 4 (zerosL [.bool false] n.toNat)) := by rw [hA4.get (Nat.le_refl _) (by omega)]; exact hseen3
  have hA14 : Ab s1.nx s1 s4 := hA13.trans (hA4.lower (by omega) (by omega))
  have hnq' : ∀ id, oq = some id → s1.nx < id := fun id h => by have := hnq id h; omega
  have hos : Own s4 4 1 (some s1.nx) (.slice (some ⟨s1.nx, 0, none⟩) n.toNat n.toNat) ((List.replicate n.toNat false).map encB) := by
    refine Own.block hseen4 ?_ (by omega) (by simp) (Or.inl rfl) (fun x hx => ?_) (by simp only [List.length_map, List.length_replicate]; have := hg.hi; unfold UNK; omega)
    · rw [zerosL_map, List.map_replicate]; rfl
    · obtain ⟨y, _, rfl⟩ := List.mem_map.1 hx; exact ⟨rfl, rfl⟩
  refine opt_of rfl ?_
  repeat (first
  | with_reducible first | refine st (by constructor) ?_ | apply c_region
  | (with_reducible apply k_block_on
     · decide)
  | ((with_reducible first | apply xOp | apply xDr | apply xIf); rfl; (simp only [Nat.reduceEqDiff, Nat.reduceAdd, ↓reduceIte, xBB, stG, undef, opA, val, opdA, opdO, plainN, omap, binA, intBinA, loadV, readA, storeV, writeA, fieldAddrA, indexAddrA, lenA, builtinA, newA, unA, packA, Value.cells, un35]; rfl); first | rfl | exact ⟨rfl, rfl, rfl⟩))
  refine loop_k (lk' := s1.nx) (s0 := s4) (fun m f t => ∃ k : Nat, k + m = l.length ∧ f.get 22 = some (.int .i64 k) ∧ Own t 3 1 oq (.slice qb (l.map encI).length qc) (l.map encI) ∧
    ∃ seen : List Bool, Own t 4 1 (some s1.nx) (.slice (some ⟨s1.nx, 0, none⟩) n.toNat n.toNat) (seen.map encB) ∧ seen.length = n.toNat ∧ ∀ x, Mk seen x ↔ x ∈ l.take k) l.length (by omega) (by omega) ?_ (Ab.refl _ _) ?_
  · refine ⟨0, by omega, by simp only [Nat.reduceEqDiff, T.get_put, ↓reduceIte]; rfl, hoq, _, hos, by simp, fun x => ⟨fun h => ?_, fun h => by simp at h⟩⟩
    obtain ⟨_, h2⟩ := h
    rw [List.getElem?_replicate] at h2
    split at h2 <;> cases h2
  · rintro m f t ⟨k, hk, h22, hqt, seen, hst, hsl, hmk2⟩ hA hF
    (have k20 := hF 20 (by rfl); simp only [Nat.reduceEqDiff, T.get_put, ↓reduceIte, hshn, h2n] at k20; have k21 := hF 21 (by rfl); simp only [Nat.reduceEqDiff, T.get_put, ↓reduceIte, hshn, h2n] at k21; have k6 := hF 6 (by rfl); simp only [Nat.reduceEqDiff, T.get_put, ↓reduceIte, hshn, h2n] at k6)
    by_cases hlt : (k : Int) < ((l.map encI).length : Int)
    · have hlt' : k < l.length := by simp at hlt; omega
      obtain ⟨id, off, wr, e, cs, rfl, g1, g2, g3, g4⟩ := hqt.sl.at (i := k) (x := encI l[k]) (by simp [hlt'])
      have hb : (0 : Int) ≤ (k : Int) ∧ (k : Int) < ((l.map encI).length : Int) := ⟨by omega, hlt⟩
      have hw : IntKind.i64.wrap ((k : Int) + 1) = ((k + 1 : Nat) : Int) := by rw [IntWalk.i64_in _ (by omega)]; rfl
      simp only [encI] at g3
      obtain ⟨p1, p2⟩ := hin l[k] (List.getElem_mem hlt')
      obtain ⟨i, hi⟩ : ∃ i : Nat, l[k] = (i : Int) := ⟨l[k].toNat, by omega⟩
      rw [hi] at g3
      have hb2 : (0 : Int) ≤ (i : Int) ∧ (i : Int) < (n.toNat : Int) := by omega
      have his : i < seen.length := by omega
      obtain ⟨off3, cap3, cs3, hh3, w1, w2, w3⟩ := hst.set (i := i) (x := [.bool true]) (by simpa using his) rfl rfl
      simp only [Value.slice.injEq, Option.some.injEq, Addr.mk.injEq] at hh3; obtain ⟨⟨_, rfl, _⟩, _, _⟩ := hh3
      have w2' : 0 + (i * 1 + 1) ≤ cs3.length := by rw [← Nat.add_assoc]; exact w2
      have hl1 : ([Value.bool true] : List Value).length = 1 := rfl
      have hone : ([Value.bool true] : List Value).all Value.oneCell' = true := rfl
      have hlk : s1.nx ≤ s1.nx := Nat.le_refl _
      repeat (first
  | with_reducible first | refine st (by constructor) ?_ | apply c_region
  | (with_reducible apply k_block_on
     · decide)
  | ((with_reducible first | apply xOp | apply xDr | apply xIf); rfl; (simp only [Nat.reduceEqDiff, Nat.reduceAdd, ↓reduceIte, xBB, stG, undef, opA, val, opdA, opdO, plainN, omap, binA, intBinA, loadV, readA, storeV, writeA, fieldAddrA, indexAddrA, lenA, builtinA, newA, unA, packA, Value.cells, h22, k21, k20, k6, hlt, un35, sz3, ty3, hb, g1, g3, un95, sz4, ty4, hb2, w1, w2', hl1, hone, hlk, hw]; rfl); first | rfl | exact ⟨rfl, rfl, rfl⟩))
      intro _ _
      have hsame : ∀ j o, j ≠ s1.nx → (T.put t.hp s1.nx o).get j = t.hp.get j := fun j o h => T.get_put_ne _ _ _ h
      refine k_loop_next (m' := m - 1) (by omega) ⟨k + 1, by omega, by simp only [Nat.reduceEqDiff, T.get_put, ↓reduceIte], hqt.same (Nat.le_refl _) fun id h => hsame _ _ (by have := hnq' id h; omega),
        seen.set i true, ?_, by rw [List.length_set]; exact hsl, fun x => ?_⟩
      · rw [List.map_set]
        exact w3 _ (Nat.le_refl _) (T.get_put_eq _ _ _)
      · rw [Mk.set his, hmk2, List.take_succ_eq_append_getElem hlt', List.mem_append, List.mem_singleton, hi]
    · repeat (first
  | with_reducible first | refine st (by constructor) ?_ | apply c_region
  | (with_reducible apply k_block_on
     · decide)
  | ((with_reducible first | apply xOp | apply xDr | apply xIf); rfl; (simp only [Nat.reduceEqDiff, Nat.reduceAdd, ↓reduceIte, xBB, stG, undef, opA, val, opdA, opdO, plainN, omap, binA, intBinA, loadV, readA, storeV, writeA, fieldAddrA, indexAddrA, lenA, builtinA, newA, unA, packA, Value.cells, h22, k21, hlt]; rfl); first | rfl | exact ⟨rfl, rfl, rfl⟩))
      intro _ _
      have hke : l.take k = l := List.take_of_length_le (by simp at hlt; omega)
      rw [hke] at hmk2
      have hbfs : Bfs n es l l seen fun _ => False := ⟨hsl, fun x hx => ⟨(hin x hx).1, (hin x hx).2, (hmk2 x).2 hx⟩, fun x hx => (hmk2 x).2 hx, fun x hx => ⟨x, (hmk2 x).1 hx, .refl x⟩, fun x hx => Or.inl ((hmk2 x).1 hx)⟩
      repeat (first
  | with_reducible first | refine st (by constructor) ?_ | apply c_region
  | (with_reducible apply k_block_on
     · decide)
  | ((with_reducible first | apply xOp | apply xDr | apply xIf); rfl; (simp only [Nat.reduceEqDiff, Nat.reduceAdd, ↓reduceIte, xBB, stG, undef, opA, val, opdA, opdO, plainN, omap, binA, intBinA, loadV, readA, storeV, writeA, fieldAddrA, indexAddrA, lenA, builtinA, newA, unA, packA, Value.cells]; rfl); first | rfl | exact ⟨rfl, rfl, rfl⟩))
      have hA1t : Ab s1.nx s1 t := hA14.trans hA
      clear hmk2 hke hlt h22 hk
      refine loop_k (lk' := s1.nx) (s0 := t) (fun m f u => ∃ (q : List Int) (seen : List Bool) (oq : Option Nat) (qv : Value), m = 2 * seen.count false + q.length ∧ m ≤ 1000200 ∧ f.get 7 = some qv ∧ Own u 3 1 oq qv (q.map encI) ∧ (∀ id, oq = some id → s1.nx < id) ∧
        Own u 4 1 (some s1.nx) (.slice (some ⟨s1.nx, 0, none⟩) n.toNat n.toNat) (seen.map encB) ∧ Bfs n es l q seen fun _ => False) (2 * seen.count false + l.length) (by omega) hA1t.nx ?_ (Ab.refl _ _) ?_
      · have k7 := hF 7 (by rfl)
        simp only [Nat.reduceEqDiff, T.get_put, ↓reduceIte] at k7
        exact ⟨l, seen, oq, _, rfl, by have := List.count_le_length (a := false) (l := seen); have := hg.hi; omega, by simp only [Nat.reduceEqDiff, T.get_put, ↓reduceIte, k7], hqt, hnq', hst, hbfs⟩
      · have k5 := hF 5 (by rfl)
        simp only [Nat.reduceEqDiff, T.get_put, ↓reduceIte] at k5
        have b5 := k5
        have b6 := k6
        clear hbfs hst hqt hoq hnq hnq' hos hseen4 hseen3 hA hF k20 k21 k5 k6 hsl
        rintro m f u ⟨q, seen, oq, qv, hm, hmb, h7, hq, hnq, hst, hbf⟩ hA hF
        (have k5 := hF 5 (by rfl); simp only [Nat.reduceEqDiff, T.get_put, ↓reduceIte, b5, b6] at k5; have k6 := hF 6 (by rfl); simp only [Nat.reduceEqDiff, T.get_put, ↓reduceIte, b5, b6] at k6)
        have hA1u : Ab s1.nx s1 u := hA1t.trans hA
        cases q with
        | nil =>
          obtain ⟨qb, qc, rfl⟩ := hq.shape
          have h0 : ¬ (((([] : List Int).map encI).length : Nat) : Int) > 0 := by simp
          repeat (first
  | with_reducible first | refine st (by constructor) ?_ | apply c_region
  | (with_reducible apply k_block_on
     · decide)
  | ((with_reducible first | apply xOp | apply xDr | apply xIf); rfl; (simp only [Nat.reduceEqDiff, Nat.reduceAdd, ↓reduceIte, xBB, stG, undef, opA, val, opdA, opdO, plainN, omap, binA, intBinA, loadV, readA, storeV, writeA, fieldAddrA, indexAddrA, lenA, builtinA, newA, unA, packA, Value.cells, h7, un35, h0]; rfl); first | rfl | exact ⟨rfl, rfl, rfl⟩))
          intro _ _
          repeat (first
  | with_reducible first | refine st (by constructor) ?_ | apply c_region
  | (with_reducible apply k_block_on
     · decide)
  | ((with_reducible first | apply xOp | apply xDr | apply xIf); rfl; (simp only [Nat.reduceEqDiff, Nat.reduceAdd, ↓reduceIte, xBB, stG, undef, opA, val, opdA, opdO, plainN, omap, binA, intBinA, loadV, readA, storeV, writeA, fieldAddrA, indexAddrA, lenA, builtinA, newA, unA, packA, Value.cells, k6]; rfl); first | rfl | exact ⟨rfl, rfl, rfl⟩))
          intro _
          ((with_reducible first | apply ret_i | apply ret_n); (simp only [Nat.reduceEqDiff, Nat.reduceAdd, ↓reduceIte, xBB, resA, opdA, opdO, plainN, omap, val, loadV, readA, packA]; rfl))
          exact ⟨s1.nx, seen, by omega, hst, hbf.len, fun x => hbf.all x⟩
        | cons k q =>
          cases oq with
          | none => obtain ⟨h1, _⟩ := hq; simp at h1
          | some oid =>
            obtain ⟨hk0, hkn, hkm⟩ := hbf.que k List.mem_cons_self
            obtain ⟨v', hsl, hq'⟩ := Own.tail un35 sz3 hq
            obtain ⟨qb, qc, rfl⟩ := hq.shape
            obtain ⟨id, off, wr, e, cs, rfl, g1, g2, g3, g4⟩ := hq.sl.at (i := 0) (x := encI k) (by simp)
            rw [Nat.zero_mul, Nat.add_zero] at g3
            obtain ⟨kn, hkk⟩ : ∃ kn : Nat, k = (kn : Int) := ⟨k.toNat, by omega⟩
            subst hkk
            simp only [encI] at g3
            have h0 : ((((((kn : Int) :: q) : List Int).map encI).length : Nat) : Int) > 0 := by simp
            have hb0 : (0 : Int) ≤ 0 ∧ (0 : Int) < ((((((kn : Int) :: q) : List Int).map encI).length : Nat) : Int) := ⟨Int.le_refl _, h0⟩
            have hkr : kn < rs.length := by omega
            have hrk : rs[kn]? = some rs[kn] := List.getElem?_eq_getElem hkr
            have hobu := hob.keep hA1u
            obtain ⟨vb, vc, rfl⟩ := hob.shape
            obtain ⟨oid2, off2, wr2, e2, cs2, rfl, o1, o2, o3, o4⟩ := hobu.sl.at (i := kn) (x := [rs[kn].v]) (by simp [hkr])
            have hbk : (0 : Int) ≤ (kn : Int) ∧ (kn : Int) < (((rs.map fun r => [r.v]).length : Nat) : Int) := by simp; omega
            have hrow := (hrows.1 rs[kn] (List.getElem_mem hkr)).1.sl
            rw [hxs kn rs[kn] hrk] at hrow
            obtain ⟨rb, rc, hrv⟩ := hrow.shape
            rw [hrv] at o3 hrow
            repeat (first
  | with_reducible first | refine st (by constructor) ?_ | apply c_region
  | (with_reducible apply k_block_on
     · decide)
  | ((with_reducible first | apply xOp | apply xDr | apply xIf); rfl; (simp only [Nat.reduceEqDiff, Nat.reduceAdd, ↓reduceIte, xBB, stG, undef, opA, val, opdA, opdO, plainN, omap, binA, intBinA, loadV, readA, storeV, writeA, fieldAddrA, indexAddrA, lenA, builtinA, newA, unA, packA, Value.cells, h7, un35, h0, hb0, sz35, sz3, ty3, g1, g3, hsl, Int.toNat_zero, Nat.zero_mul, k5, un30, hbk, o1, o3, ty35]; rfl); first | rfl | exact ⟨rfl, rfl, rfl⟩))
            have c6 := k6
            have hm1 : 2 * seen.count false + q.length < m := by rw [hm, List.length_cons]; omega
            have hbp := hbf.pop
            refine loop_k (lk' := s1.nx) (s0 := u) (fun m2 f u => ∃ j : Nat, j + m2 = (succL es kn).length ∧ f.get 43 = some (.int .i64 j) ∧
              ∃ (q : List Int) (seen : List Bool) (oq : Option Nat) (qv : Value), 2 * seen.count false + q.length < m ∧ f.get 7 = some qv ∧ Own u 3 1 oq qv (q.map encI) ∧ (∀ id, oq = some id → s1.nx < id) ∧
              Own u 4 1 (some s1.nx) (.slice (some ⟨s1.nx, 0, none⟩) n.toNat n.toNat) (seen.map encB) ∧ Bfs n es l q seen (fun x => x = (kn : Int)) ∧ Mk seen kn ∧ ∀ y ∈ (succL es kn).take j, Mk seen y)
              (succL es kn).length (Nat.le_refl _) hA1u.nx ?_ (Ab.refl _ _) ?_
            · exact ⟨0, by omega, by simp only [Nat.reduceEqDiff, T.get_put, ↓reduceIte]; rfl, q, seen, some oid, v', hm1, by simp only [Nat.reduceEqDiff, T.get_put, ↓reduceIte], hq', hnq, hst, hbp, hkm, fun y hy => by simp at hy⟩
            · clear hbf hst hq hnq hq' hsl hm1 hbp hkm g1 g2 g3 g4 hb0 h0 o1 o2 o3 h7 k6 k5 hobu hm
              rintro m2 f2 w ⟨j, hj, h43, q, seen, oq, qv, hm, h7, hq, hnq, hst, hbf, hkm, hdone⟩ hA2 hF
              (have k41 := hF 41 (by rfl); simp only [Nat.reduceEqDiff, T.get_put, ↓reduceIte, c6] at k41; have k42 := hF 42 (by rfl); simp only [Nat.reduceEqDiff, T.get_put, ↓reduceIte, c6] at k42; have k6 := hF 6 (by rfl); simp only [Nat.reduceEqDiff, T.get_put, ↓reduceIte, c6] at k6)
              clear hF
              by_cases hlt : (j : Int) < (((succL es kn).map encI).length : Int)
              · have hlt' : j < (succL es kn).length := by simp at hlt; omega
                have hrw := hrow.keep (hA1u.trans hA2)
                obtain ⟨id, off, wr, e, cs, rfl, g1, g2, g3, g4⟩ := hrw.at (i := j) (x := encI (succL es kn)[j]) (by simp [hlt'])
                have hb : (0 : Int) ≤ (j : Int) ∧ (j : Int) < (((succL es kn).map encI).length : Int) := ⟨by omega, hlt⟩
                have hjl : (succL es kn).length ≤ es.length := by unfold succL; rw [List.length_map]; exact List.length_filter_le _ _
                have hjw := hg.len
                have hw : IntKind.i64.wrap ((j : Int) + 1) = ((j + 1 : Nat) : Int) := by rw [IntWalk.i64_in _ (by omega)]; rfl
                simp only [encI] at g3
                have hedge : ((kn : Int), (succL es kn)[j]) ∈ es := mem_succL.1 (List.getElem_mem hlt')
                obtain ⟨_, _, p1, p2⟩ := hg.ins _ hedge
                dsimp only at p1 p2
                obtain ⟨i, hi⟩ : ∃ i : Nat, (succL es kn)[j] = (i : Int) := ⟨(succL es kn)[j].toNat, by omega⟩
                rw [hi] at g3 hedge
                have hsl := hbf.len
                have his : i < seen.length := by omega
                have hb2 : (0 : Int) ≤ (i : Int) ∧ (i : Int) < (n.toNat : Int) := by omega
                obtain ⟨_, _, wr2, e2, cs3, hh, o1, o2, o3, _⟩ := hst.sl.at (i := i) (x := encB seen[i]) (by simp [his])
                simp only [Option.some.injEq, Addr.mk.injEq] at hh; obtain ⟨rfl, rfl, _⟩ := hh
                simp only [encB] at o3
                have htake : ∀ {sn : List Bool}, (∀ y ∈ (succL es kn).take j, Mk sn y) → Mk sn i → ∀ y ∈ (succL es kn).take (j + 1), Mk sn y := fun h1 h2 y hy => by
                  rw [List.take_succ_eq_append_getElem hlt', List.mem_append, List.mem_singleton] at hy
                  rcases hy with hy | hy
                  · exact h1 y hy
                  · rw [hy, hi]; exact h2
                by_cases hsi : seen[i] = true
                · repeat (first
  | with_reducible first | refine st (by constructor) ?_ | apply c_region
  | (with_reducible apply k_block_on
     · decide)
  | ((with_reducible first | apply xOp | apply xDr | apply xIf); rfl; (simp only [Nat.reduceEqDiff, Nat.reduceAdd, ↓reduceIte, xBB, stG, undef, opA, val, opdA, opdO, plainN, omap, binA, intBinA, loadV, readA, storeV, writeA, fieldAddrA, indexAddrA, lenA, builtinA, newA, unA, packA, Value.cells, h43, k42, k41, k6, hlt, un35, sz3, ty3, hb, g1, g3, un95, sz4, ty4, hb2, o1, o3, hsi, Bool.not_true, hw]; rfl); first | rfl | exact ⟨rfl, rfl, rfl⟩))
                  intro _ _
                  refine k_loop_next (m' := m2 - 1) (by omega) ⟨j + 1, by omega, by simp only [Nat.reduceEqDiff, T.get_put, ↓reduceIte], q, seen, oq, qv, hm, by simp only [Nat.reduceEqDiff, T.get_put, ↓reduceIte, h7], hq, hnq, hst, hbf, hkm, htake hdone ?_⟩
                  exact ⟨by omega, by rw [Int.toNat_natCast, List.getElem?_eq_getElem his, hsi]⟩
                · simp only [Bool.not_eq_true] at hsi
                  obtain ⟨off3, cap3, cs4, hh3, w1, w2, w3⟩ := hst.set (i := i) (x := [.bool true]) (by simpa using his) rfl rfl
                  simp only [Value.slice.injEq, Option.some.injEq, Addr.mk.injEq] at hh3; obtain ⟨⟨_, rfl, _⟩, _, _⟩ := hh3
                  rw [o1] at w1; cases w1
                  have w2' : 0 + (i * 1 + 1) ≤ cs3.length := by rw [← Nat.add_assoc]; exact w2
                  have hl1 : ([Value.bool true] : List Value).length = 1 := rfl
                  have hone : ([Value.bool true] : List Value).all Value.oneCell' = true := rfl
                  have hlk : s1.nx ≤ s1.nx := Nat.le_refl _
                  repeat (first
  | with_reducible first | refine st (by constructor) ?_ | apply c_region
  | (with_reducible apply k_block_on
     · decide)
  | ((with_reducible first | apply xOp | apply xDr | apply xIf); rfl; (simp only [Nat.reduceEqDiff, Nat.reduceAdd, ↓reduceIte, xBB, stG, undef, opA, val, opdA, opdO, plainN, omap, binA, intBinA, loadV, readA, storeV, writeA, fieldAddrA, indexAddrA, lenA, builtinA, newA, unA, packA, Value.cells, h43, k42, k41, k6, hlt, un35, sz3, ty3, hb, g1, g3, un95, sz4, ty4, hb2, o1, o3, hsi, Bool.not_false, w2', hl1, hone, hlk, h7, buildSliceA, el35, zr3, zerosL, fillA]; rfl); first | rfl | exact ⟨rfl, rfl, rfl⟩))
                  have hwn := hst.lt rfl
                  generalize hst0 : ({ hp := (w.hp.put s1.nx (some (.cells true 4 (putL cs3 (0 + i * 1) [.bool true])))).put w.nx (some (.cells true 3 (putL ([.int .i64 0] ++ []) (0 * 1) [.int .i64 i]))), nx := w.nx + 1 } : HS) = w2s
                  have hw2n : w2s.nx = w.nx + 1 := by rw [← hst0]
                  have hw2o : ∀ id, id ≠ s1.nx → id < w.nx → w2s.hp.get id = w.hp.get id := fun id h1 h2 => by
                    rw [← hst0]; dsimp only; rw [T.get_put_ne _ _ _ (by omega), T.get_put_ne _ _ _ h1]
                  have hw2s : w2s.hp.get s1.nx = some (.cells true 4 (putL cs3 (0 + i * 1) [.bool true])) := by rw [← hst0]; dsimp only; rw [T.get_put_ne _ _ _ (by omega), T.get_put_eq]
                  have hw2y : w2s.hp.get w.nx = some (.cells true 3 [.int .i64 i]) := by rw [← hst0]; exact T.get_put_eq _ _ _
                  have hql : q.length ≤ 1000200 := by omega
                  ((with_reducible first | apply ops_opt | apply xPd); (first | rfl | exact ⟨rfl, rfl⟩); (simp only [Nat.reduceEqDiff, Nat.reduceAdd, ↓reduceIte, xBB, opA, val, opdA, opdO, plainN, omap, binA, intBinA, loadV, readA, storeV, writeA, fieldAddrA, indexAddrA, lenA, builtinA, newA, unA, packA, Value.cells, un35, h7]; rfl))
                  have hq2 : Own w2s 3 1 oq qv (q.map encI) := hq.same (by omega) fun id h => hw2o id (by have := hnq id h; omega) (hq.lt h)
                  refine opt_ex (app_one (lk := s1.nx) (y := [.int .i64 i]) el35 sz3 by3 zr3 rfl (by decide) hq2 (fun id h => by have := hnq id h; omega) hw2y rfl rfl (by simp; omega)) fun p hp => ?_
                  obtain ⟨pv, s5⟩ := p
                  obtain ⟨p1, p2, o', p3, p4⟩ := hp
                  dsimp only at p1 p2 p3
                  refine opt_of rfl ?_
                  repeat (first
  | with_reducible first | refine st (by constructor) ?_ | apply c_region
  | (with_reducible apply k_block_on
     · decide)
  | ((with_reducible first | apply xOp | apply xDr | apply xIf); rfl; (simp only [Nat.reduceEqDiff, Nat.reduceAdd, ↓reduceIte, xBB, stG, undef, opA, val, opdA, opdO, plainN, omap, binA, intBinA, loadV, readA, storeV, writeA, fieldAddrA, indexAddrA, lenA, builtinA, newA, unA, packA, Value.cells, h43, hw]; rfl); first | rfl | exact ⟨rfl, rfl, rfl⟩))
                  intro _ _
                  have hcs := count_set (seen := seen) (i := i) (by rw [List.getElem?_eq_getElem his, hsi])
                  refine k_loop_next (m' := m2 - 1) (by omega) ⟨j + 1, by omega, by simp only [Nat.reduceEqDiff, T.get_put, ↓reduceIte], q ++ [(i : Int)], seen.set i true, o', pv, by simp; omega, by simp only [Nat.reduceEqDiff, T.get_put, ↓reduceIte],
                    by rw [List.map_append]; exact p3, fun id h => ?_, ?_, hbf.mark hkm his hedge, (Mk.set his).2 (Or.inl hkm), htake (fun y hy => (Mk.set his).2 (Or.inl (hdone y hy))) ((Mk.set his).2 (Or.inr rfl))⟩
                  · rcases p4 with rfl | rfl
                    · exact hnq id h
                    · cases h; omega
                  · rw [List.map_set]
                    refine w3 _ (by omega) ?_
                    rw [p2 s1.nx (by omega) (fun h => by have := hnq _ h; omega)]
                    exact hw2s
              · repeat (first
  | with_reducible first | refine st (by constructor) ?_ | apply c_region
  | (with_reducible apply k_block_on
     · decide)
  | ((with_reducible first | apply xOp | apply xDr | apply xIf); rfl; (simp only [Nat.reduceEqDiff, Nat.reduceAdd, ↓reduceIte, xBB, stG, undef, opA, val, opdA, opdO, plainN, omap, binA, intBinA, loadV, readA, storeV, writeA, fieldAddrA, indexAddrA, lenA, builtinA, newA, unA, packA, Value.cells, h43, k42, hlt]; rfl); first | rfl | exact ⟨rfl, rfl, rfl⟩))
                intro _ _
                repeat (first
  | with_reducible first | refine st (by constructor) ?_ | apply c_region
  | (with_reducible apply k_block_on
     · decide)
  | ((with_reducible first | apply xOp | apply xDr | apply xIf); rfl; (simp only [Nat.reduceEqDiff, Nat.reduceAdd, ↓reduceIte, xBB, stG, undef, opA, val, opdA, opdO, plainN, omap, binA, intBinA, loadV, readA, storeV, writeA, fieldAddrA, indexAddrA, lenA, builtinA, newA, unA, packA, Value.cells]; rfl); first | rfl | exact ⟨rfl, rfl, rfl⟩))
                intro _ _
                have hall : (succL es kn).take j = succL es kn := List.take_of_length_le (by simp at hlt; omega)
                rw [hall] at hdone
                exact k_loop_next (m' := 2 * seen.count false + q.length) hm ⟨q, seen, oq, qv, rfl, by omega, by simp only [Nat.reduceEqDiff, T.get_put, ↓reduceIte, h7], hq, hnq, hst, hbf.done1 hdone⟩
end Go.Ev

/- graph.Reach, removable.Hull. -/
namespace Go.Ev
open Go Go.Proofs
set_option linter.unusedSimpArgs false
set_option linter.unusedVariables false
set_option maxRecDepth 100000
set_option maxHeartbeats 4000000
attribute [local irreducible] wpOps wpC wpD wpF wpLoop wpCall seqK blockK loopK retK T.put T.get T.setF

/-- The nodes that are reached, in order. -/
def ReachedL (n : Int) (es : List (Int × Int)) (l : List Int) (r : List Int) : Prop :=
  ∃ seen : List Bool, seen.length = n.toNat ∧ (∀ x, Mk seen x ↔ ∃ f ∈ l, Rch es f x) ∧ r = listedL 0 seen

theorem good_of {n : Int} {es : List (Int × Int)} (h : checkR n es = 0) : GoodG n es := by
  unfold checkR at h
  split at h
  · cases h
  · split at h
    · cases h
    · split at h
      · cases h
      · rename_i h1 h2 h3
        have hnn : n * n ≤ 4096 := by
          have := Int.mul_le_mul (show n ≤ 64 by omega) (show n ≤ 64 by omega) (show 0 ≤ n by omega) (show (0 : Int) ≤ 64 by omega); omega
        refine ⟨by omega, by omega, by omega, fun e he => ?_⟩
        have h4 : ¬ outside n e = true := fun h5 => h3 (List.any_eq_true.2 ⟨e, he, h5⟩)
        unfold outside beyondB at h4
        simp only [Bool.or_eq_true, decide_eq_true_eq] at h4
        omega

theorem ready_of {n : Int} {es : List (Int × Int)} {l : List Int} (h : readyR n es l = 0) : checkR n es = 0 ∧ ∀ x ∈ l, 0 ≤ x ∧ x < n := by
  unfold readyR at h
  split at h
  · rename_i h1; exact absurd h h1
  · rename_i h1
    split at h
    · cases h
    · rename_i h2
      refine ⟨by simpa using h1, fun x hx => ?_⟩
      have h4 : ¬ beyondB n x = true := fun h5 => h2 (List.any_eq_true.2 ⟨x, hx, h5⟩)
      unfold beyondB at h4
      simp only [Bool.or_eq_true, decide_eq_true_eq] at h4
      omega

/-- A list of numbers and an error: the list of an error is nil. -/
def LstE (s s' : HS) (v : Value) (c : Int) (Q : List Int → Prop) : Prop :=
  (c ≠ 0 ∧ v = .tuple #[.slice none 0 0, .int .i64 c]) ∨ (c = 0 ∧ ∃ o lv r, v = .tuple #[lv, .int .i64 0] ∧ Own s' 3 1 o lv (r.map encI) ∧ newer s o ∧ Q r)

theorem f39_spec [Sorts Tryd.prog] (n : Int) (es : List (Int × Int)) (ev : Value) (l : List Int) (lv : Value) (s : HS) (hs : Sl s 2 ev (es.map encE)) (hl : Sl s 1 lv (l.map encI)) (hll : l.length < 1000000) :
    wpF Tryd.prog s.nx 39 [vG n ev, lv] s (fun v s' => LstE s s' v (readyR n es l) (ReachedL n es l)) := by
  obtain ⟨b, c, rfl⟩ := hl.shape
  refine wpF_of Tryd.func39 rfl rfl rfl rfl (Nat.le_refl _) ?_
  simp only [paramsA, vG]
  repeat (first
  | with_reducible first | refine st (by constructor) ?_ | apply c_region
  | (with_reducible apply k_block_on
     · decide)
  | ((with_reducible first | apply xOp | apply xDr | apply xIf); rfl; (simp only [Nat.reduceEqDiff, Nat.reduceAdd, ↓reduceIte, xBB, stG, undef, opA, val, opdA, opdO, plainN, omap, binA, intBinA, loadV, readA, storeV, writeA, fieldAddrA, indexAddrA, lenA, builtinA, newA, unA, packA, Value.cells, ty28, sz28, cutL]; rfl); first | rfl | exact ⟨rfl, rfl, rfl⟩))
  have hA0 := Ab.new (lk := s.nx) s (.cells true 28 [.int .i64 n, ev])
  ((with_reducible first | apply xCa | apply xCd); rfl; (simp only [Nat.reduceEqDiff, Nat.reduceAdd, ↓reduceIte, xBB, stB, opdA, opdO, plainN, omap, val, Value.cells]; exact ⟨rfl, rfl⟩); try rfl)
  apply call_fn
  refine (f57_spec n es ev l _ _ (hs.keep hA0) (hl.keep hA0) (by omega)).use (by first | exact Nat.le_refl _ | (simp only [cond_true, cond_false]; omega) | omega | (dsimp only; omega)) (by first | exact Nat.le_refl _ | (simp only [cond_true, cond_false]; omega) | omega | (dsimp only; omega)) fun v s1 hv hA1 => ?_
  subst hv
  refine opt_of rfl ?_
  have hbox := hA1.get (Nat.le_refl _) (Nat.lt_succ_self s.nx)
  rw [T.get_put_eq] at hbox
  have hA2 := hA0.trans (hA1.lower (Nat.le_succ _) (Nat.le_refl _))
  by_cases hc : readyR n es l = 0
  · obtain ⟨hc1, hc2⟩ := ready_of hc
    have hc' : (readyR n es l != 0) = false := by simp [hc]
    repeat (first
  | with_reducible first | refine st (by constructor) ?_ | apply c_region
  | (with_reducible apply k_block_on
     · decide)
  | ((with_reducible first | apply xOp | apply xDr | apply xIf); rfl; (simp only [Nat.reduceEqDiff, Nat.reduceAdd, ↓reduceIte, xBB, stG, undef, opA, val, opdA, opdO, plainN, omap, binA, intBinA, loadV, readA, storeV, writeA, fieldAddrA, indexAddrA, lenA, builtinA, newA, unA, packA, Value.cells, hc', ty28, hbox]; rfl); first | rfl | exact ⟨rfl, rfl, rfl⟩))
    ((with_reducible first | apply xCa | apply xCd); rfl; (simp only [Nat.reduceEqDiff, Nat.reduceAdd, ↓reduceIte, xBB, stB, opdA, opdO, plainN, omap, val, Value.cells]; exact ⟨rfl, rfl⟩); try rfl)
    apply call_fn
    refine (f59_spec n es ev l _ _ (hs.keep hA2) (hl.keep hA2) (good_of hc1) hll hc2).use hA2.nx (Nat.le_refl _) fun v s2 hv hA3 => ?_
    obtain ⟨o, seen, h1, h2, h3, h4⟩ := hv
    refine opt_of rfl ?_
    ((with_reducible first | apply xCa | apply xCd); rfl; (simp only [Nat.reduceEqDiff, Nat.reduceAdd, ↓reduceIte, xBB, stB, opdA, opdO, plainN, omap, val, Value.cells]; exact ⟨rfl, rfl⟩); try rfl)
    apply call_fn
    have hA4 := hA2.trans (hA3.lower hA2.nx (Nat.le_refl _))
    have hgood := good_of hc1
    have hgn := hgood.hi
    refine (f58_spec seen v s2 h2.sl (by omega)).use hA4.nx (Nat.le_refl _) fun v s3 hv hA5 => ?_
    obtain ⟨o2, h5, h6⟩ := hv
    refine opt_of rfl ?_
    repeat (first
  | with_reducible first | refine st (by constructor) ?_ | apply c_region
  | (with_reducible apply k_block_on
     · decide)
  | ((with_reducible first | apply xOp | apply xDr | apply xIf); rfl; (simp only [Nat.reduceEqDiff, Nat.reduceAdd, ↓reduceIte, xBB, stG, undef, opA, val, opdA, opdO, plainN, omap, binA, intBinA, loadV, readA, storeV, writeA, fieldAddrA, indexAddrA, lenA, builtinA, newA, unA, packA, Value.cells]; rfl); first | rfl | exact ⟨rfl, rfl, rfl⟩))
    intro _
    ((with_reducible first | apply ret_i | apply ret_n); (simp only [Nat.reduceEqDiff, Nat.reduceAdd, ↓reduceIte, xBB, resA, opdA, opdO, plainN, omap, val, loadV, readA, packA]; rfl))
    exact Or.inr ⟨hc, o2, _, _, rfl, h5, fun id h => Nat.le_trans hA4.nx (h6 id h), seen, h3, h4, rfl⟩
  · have hc' : (readyR n es l != 0) = true := by simp [hc]
    repeat (first
  | with_reducible first | refine st (by constructor) ?_ | apply c_region
  | (with_reducible apply k_block_on
     · decide)
  | ((with_reducible first | apply xOp | apply xDr | apply xIf); rfl; (simp only [Nat.reduceEqDiff, Nat.reduceAdd, ↓reduceIte, xBB, stG, undef, opA, val, opdA, opdO, plainN, omap, binA, intBinA, loadV, readA, storeV, writeA, fieldAddrA, indexAddrA, lenA, builtinA, newA, unA, packA, Value.cells, hc']; rfl); first | rfl | exact ⟨rfl, rfl, rfl⟩))
    intro _
    ((with_reducible first | apply ret_i | apply ret_n); (simp only [Nat.reduceEqDiff, Nat.reduceAdd, ↓reduceIte, xBB, resA, opdA, opdO, plainN, omap, val, loadV, readA, packA]; rfl))
    exact Or.inl ⟨hc, rfl⟩

theorem f21_spec [Sorts Tryd.prog] (n : Int) (es : List (Int × Int)) (ev : Value) (l : List Int) (lv : Value) (s : HS) (hs : Sl s 2 ev (es.map encE)) (hl : Sl s 1 lv (l.map encI)) (hll : l.length < 1000000) :
    wpF Tryd.prog s.nx 21 [vG n ev, lv] s (fun v s' => LstE s s' v (readyR n es l) (ReachedL n es l)) := by
  obtain ⟨b, c, rfl⟩ := hl.shape
  refine wpF_of Tryd.func21 rfl rfl rfl rfl (Nat.le_refl _) ?_
  simp only [paramsA, vG]
  repeat (first
  | with_reducible first | refine st (by constructor) ?_ | apply c_region
  | (with_reducible apply k_block_on
     · decide)
  | ((with_reducible first | apply xOp | apply xDr | apply xIf); rfl; (simp only [Nat.reduceEqDiff, Nat.reduceAdd, ↓reduceIte, xBB, stG, undef, opA, val, opdA, opdO, plainN, omap, binA, intBinA, loadV, readA, storeV, writeA, fieldAddrA, indexAddrA, lenA, builtinA, newA, unA, packA, Value.cells, ty28, sz28, cutL]; rfl); first | rfl | exact ⟨rfl, rfl, rfl⟩))
  have hA0 := Ab.new (lk := s.nx) s (.cells true 28 [.int .i64 n, ev])
  ((with_reducible first | apply xCa | apply xCd); rfl; (simp only [Nat.reduceEqDiff, Nat.reduceAdd, ↓reduceIte, xBB, stB, opdA, opdO, plainN, omap, val, Value.cells]; exact ⟨rfl, rfl⟩); try rfl)
  apply call_fn
  refine (f39_spec n es ev l _ _ (hs.keep hA0) (hl.keep hA0) hll).use (by first | exact Nat.le_refl _ | (simp only [cond_true, cond_false]; omega) | omega | (dsimp only; omega)) (by first | exact Nat.le_refl _ | (simp only [cond_true, cond_false]; omega) | omega | (dsimp only; omega)) fun v s1 hv hA1 => ?_
  rcases hv with ⟨h1, rfl⟩ | ⟨h1, o, lv2, r, rfl, h2, h3, h4⟩
  · refine opt_of rfl ?_
    repeat (first
  | with_reducible first | refine st (by constructor) ?_ | apply c_region
  | (with_reducible apply k_block_on
     · decide)
  | ((with_reducible first | apply xOp | apply xDr | apply xIf); rfl; (simp only [Nat.reduceEqDiff, Nat.reduceAdd, ↓reduceIte, xBB, stG, undef, opA, val, opdA, opdO, plainN, omap, binA, intBinA, loadV, readA, storeV, writeA, fieldAddrA, indexAddrA, lenA, builtinA, newA, unA, packA, Value.cells, List.getElem?_cons_zero, List.getElem?_cons_succ]; rfl); first | rfl | exact ⟨rfl, rfl, rfl⟩))
    intro _
    ((with_reducible first | apply ret_i | apply ret_n); (simp only [Nat.reduceEqDiff, Nat.reduceAdd, ↓reduceIte, xBB, resA, opdA, opdO, plainN, omap, val, loadV, readA, packA]; rfl))
    exact Or.inl ⟨h1, rfl⟩
  · refine opt_of rfl ?_
    repeat (first
  | with_reducible first | refine st (by constructor) ?_ | apply c_region
  | (with_reducible apply k_block_on
     · decide)
  | ((with_reducible first | apply xOp | apply xDr | apply xIf); rfl; (simp only [Nat.reduceEqDiff, Nat.reduceAdd, ↓reduceIte, xBB, stG, undef, opA, val, opdA, opdO, plainN, omap, binA, intBinA, loadV, readA, storeV, writeA, fieldAddrA, indexAddrA, lenA, builtinA, newA, unA, packA, Value.cells, List.getElem?_cons_zero, List.getElem?_cons_succ]; rfl); first | rfl | exact ⟨rfl, rfl, rfl⟩))
    intro _
    ((with_reducible first | apply ret_i | apply ret_n); (simp only [Nat.reduceEqDiff, Nat.reduceAdd, ↓reduceIte, xBB, resA, opdA, opdO, plainN, omap, val, loadV, readA, packA]; rfl))
    exact Or.inr ⟨h1, o, lv2, r, rfl, h2, fun id h => Nat.le_trans (Nat.le_succ _) (h3 id h), h4⟩
end Go.Ev

/- The model: sameInts, bits, nodes, hull. -/
namespace Go.Ev
open Go Go.Proofs
set_option linter.unusedSimpArgs false
set_option linter.unusedVariables false
set_option maxRecDepth 100000
set_option maxHeartbeats 4000000
attribute [local irreducible] wpOps wpC wpD wpF wpLoop wpCall seqK blockK loopK retK T.put T.get T.setF

def eqI : List Int → List Int → Bool
  | [], [] => true
  | x :: xs, y :: ys => (x == y) && eqI xs ys
  | _, _ => false
theorem eqI_iff {a b : List Int} : eqI a b = true ↔ a = b := by
  induction a generalizing b with
  | nil => cases b <;> simp [eqI]
  | cons x xs ih => cases b with
    | nil => simp [eqI]
    | cons y ys => simp [eqI, ih]
theorem eqI_dec (a b : List Int) : eqI a b = decide (a = b) := by
  cases h : eqI a b with
  | true => rw [eqI_iff] at h; simp [h]
  | false => rw [eq_comm, decide_eq_false_iff_not]; intro e; rw [eqI_iff.2 e] at h; cases h

theorem f15_spec [Sorts Tryd.prog] (a b : List Int) (av bv : Value) (s : HS) (ha : Sl s 1 av (a.map encI)) (hb : Sl s 1 bv (b.map encI)) (hl : a.length < 1000000000) :
    wpF Tryd.prog s.nx 15 [av, bv] s (fun v s' => v = .bool (decide (a = b)) ∧ s' = s) := by
  obtain ⟨p1, c1, rfl⟩ := ha.shape
  obtain ⟨p2, c2, rfl⟩ := hb.shape
  refine wpF_of Tryd.func15 rfl rfl rfl rfl (Nat.le_refl _) ?_
  simp only [paramsA]
  by_cases hne : (((a.map encI).length : Int) != ((b.map encI).length : Int)) = true
  · repeat (first
  | with_reducible first | refine st (by constructor) ?_ | apply c_region
  | (with_reducible apply k_block_on
     · decide)
  | ((with_reducible first | apply xOp | apply xDr | apply xIf); rfl; (simp only [Nat.reduceEqDiff, Nat.reduceAdd, ↓reduceIte, xBB, stG, undef, opA, val, opdA, opdO, plainN, omap, binA, intBinA, loadV, readA, storeV, writeA, fieldAddrA, indexAddrA, lenA, builtinA, newA, unA, packA, Value.cells, un35, hne]; rfl); first | rfl | exact ⟨rfl, rfl, rfl⟩))
    intro _
    ((with_reducible first | apply ret_i | apply ret_n); (simp only [Nat.reduceEqDiff, Nat.reduceAdd, ↓reduceIte, xBB, resA, opdA, opdO, plainN, omap, val, loadV, readA, packA]; rfl))
    refine ⟨?_, rfl⟩
    have : ¬ a = b := fun e => by subst e; simp at hne
    simp only [this, decide_false]; rfl
  · simp only [Bool.not_eq_true] at hne
    have hlen : a.length = b.length := by simp at hne; omega
    repeat (first
  | with_reducible first | refine st (by constructor) ?_ | apply c_region
  | (with_reducible apply k_block_on
     · decide)
  | ((with_reducible first | apply xOp | apply xDr | apply xIf); rfl; (simp only [Nat.reduceEqDiff, Nat.reduceAdd, ↓reduceIte, xBB, stG, undef, opA, val, opdA, opdO, plainN, omap, binA, intBinA, loadV, readA, storeV, writeA, fieldAddrA, indexAddrA, lenA, builtinA, newA, unA, packA, Value.cells, un35, hne]; rfl); first | rfl | exact ⟨rfl, rfl, rfl⟩))
    refine loop_k (lk' := s.nx) (s0 := s) (fun m f t => t = s ∧ ∃ k : Nat, k + m = a.length ∧ eqI (a.drop k) (b.drop k) = eqI a b ∧ f.get 5 = some (.int .i64 k)) a.length (Nat.le_refl _) (Nat.le_refl _) ?_ (Ab.refl _ _) ?_
    · exact ⟨rfl, 0, by omega, rfl, by simp only [Nat.reduceEqDiff, T.get_put, ↓reduceIte]; rfl⟩
    · rintro m f t ⟨rfl, k, hk, heq, h5⟩ hA hF
      (have k0 := hF 0 (by rfl); simp only [Nat.reduceEqDiff, T.get_put, ↓reduceIte] at k0; have k1 := hF 1 (by rfl); simp only [Nat.reduceEqDiff, T.get_put, ↓reduceIte] at k1)
      by_cases hlt : (k : Int) < ((a.map encI).length : Int)
      · have hlt' : k < a.length := by simp at hlt; omega
        have hlt2 : k < b.length := by omega
        obtain ⟨id, off, wr, e, cs, rfl, g1, g2, g3, g4⟩ := ha.at (i := k) (x := encI a[k]) (by simp [hlt'])
        obtain ⟨id', off', wr', e', cs', rfl, o1, o2, o3, o4⟩ := hb.at (i := k) (x := encI b[k]) (by simp [hlt2])
        have hb : (0 : Int) ≤ (k : Int) ∧ (k : Int) < ((a.map encI).length : Int) := ⟨by omega, hlt⟩
        have hb' : (0 : Int) ≤ (k : Int) ∧ (k : Int) < ((b.map encI).length : Int) := ⟨by omega, by simp; omega⟩
        have hw : IntKind.i64.wrap ((k : Int) + 1) = ((k + 1 : Nat) : Int) := by rw [IntWalk.i64_in _ (by omega)]; rfl
        simp only [encI] at g3 o3
        rw [List.drop_eq_getElem_cons hlt', List.drop_eq_getElem_cons hlt2, eqI] at heq
        repeat (first
  | with_reducible first | refine st (by constructor) ?_ | apply c_region
  | (with_reducible apply k_block_on
     · decide)
  | ((with_reducible first | apply xOp | apply xDr | apply xIf); rfl; (simp only [Nat.reduceEqDiff, Nat.reduceAdd, ↓reduceIte, xBB, stG, undef, opA, val, opdA, opdO, plainN, omap, binA, intBinA, loadV, readA, storeV, writeA, fieldAddrA, indexAddrA, lenA, builtinA, newA, unA, packA, Value.cells, h5, k0, k1, un35, hlt]; rfl); first | rfl | exact ⟨rfl, rfl, rfl⟩))
        refine c_draw [⟨false, [], none⟩, ⟨false, [], none⟩, ⟨false, [], none⟩, ⟨false, [], none⟩, ⟨false, [], none⟩, ⟨false, [], none⟩, ⟨false, [], none⟩, ⟨false, [3], none⟩, ⟨true, [], none⟩] (by kernel_rfl) ?_
        by_cases hx : (a[k] != b[k]) = true
        · repeat (first
  | with_reducible first | refine st (by constructor) ?_ | apply c_region
  | (with_reducible apply k_block_on
     · decide)
  | ((with_reducible first | apply xOp | apply xDr | apply xIf); rfl; (simp only [Nat.reduceEqDiff, Nat.reduceAdd, ↓reduceIte, xBB, stG, undef, opA, val, opdA, opdO, plainN, omap, binA, intBinA, loadV, readA, storeV, writeA, fieldAddrA, indexAddrA, lenA, builtinA, newA, unA, packA, Value.cells, h5, k0, k1, un35, hlt, sz35, sz3, ty3, hb, hb', g1, g3, o1, o3, hx]; rfl); first | rfl | exact ⟨rfl, rfl, rfl⟩))
          intro _ _
          repeat (first
  | with_reducible first | refine st (by constructor) ?_ | apply c_region
  | (with_reducible apply k_block_on
     · decide)
  | ((with_reducible first | apply xOp | apply xDr | apply xIf); rfl; (simp only [Nat.reduceEqDiff, Nat.reduceAdd, ↓reduceIte, xBB, stG, undef, opA, val, opdA, opdO, plainN, omap, binA, intBinA, loadV, readA, storeV, writeA, fieldAddrA, indexAddrA, lenA, builtinA, newA, unA, packA, Value.cells]; rfl); first | rfl | exact ⟨rfl, rfl, rfl⟩))
          intro _
          ((with_reducible first | apply ret_i | apply ret_n); (simp only [Nat.reduceEqDiff, Nat.reduceAdd, ↓reduceIte, xBB, resA, opdA, opdO, plainN, omap, val, loadV, readA, packA]; rfl))
          refine ⟨?_, rfl⟩
          have hx2 : (a[k] == b[k]) = false := by simpa [bne] using hx
          rw [hx2, Bool.false_and] at heq
          rw [← eqI_dec, ← heq]; rfl
        · simp only [Bool.not_eq_true] at hx
          repeat (first
  | with_reducible first | refine st (by constructor) ?_ | apply c_region
  | (with_reducible apply k_block_on
     · decide)
  | ((with_reducible first | apply xOp | apply xDr | apply xIf); rfl; (simp only [Nat.reduceEqDiff, Nat.reduceAdd, ↓reduceIte, xBB, stG, undef, opA, val, opdA, opdO, plainN, omap, binA, intBinA, loadV, readA, storeV, writeA, fieldAddrA, indexAddrA, lenA, builtinA, newA, unA, packA, Value.cells, h5, k0, k1, un35, hlt, sz35, sz3, ty3, hb, hb', g1, g3, o1, o3, hx, hw]; rfl); first | rfl | exact ⟨rfl, rfl, rfl⟩))
          intro _ _
          have hx2 : (a[k] == b[k]) = true := by simpa [bne] using hx
          rw [hx2, Bool.true_and] at heq
          exact k_loop_next (m' := m - 1) (by omega) ⟨rfl, k + 1, by omega, heq, by simp only [Nat.reduceEqDiff, T.get_put, ↓reduceIte]⟩
      · repeat (first
  | with_reducible first | refine st (by constructor) ?_ | apply c_region
  | (with_reducible apply k_block_on
     · decide)
  | ((with_reducible first | apply xOp | apply xDr | apply xIf); rfl; (simp only [Nat.reduceEqDiff, Nat.reduceAdd, ↓reduceIte, xBB, stG, undef, opA, val, opdA, opdO, plainN, omap, binA, intBinA, loadV, readA, storeV, writeA, fieldAddrA, indexAddrA, lenA, builtinA, newA, unA, packA, Value.cells, h5, k0, un35, hlt]; rfl); first | rfl | exact ⟨rfl, rfl, rfl⟩))
        intro _ _
        repeat (first
  | with_reducible first | refine st (by constructor) ?_ | apply c_region
  | (with_reducible apply k_block_on
     · decide)
  | ((with_reducible first | apply xOp | apply xDr | apply xIf); rfl; (simp only [Nat.reduceEqDiff, Nat.reduceAdd, ↓reduceIte, xBB, stG, undef, opA, val, opdA, opdO, plainN, omap, binA, intBinA, loadV, readA, storeV, writeA, fieldAddrA, indexAddrA, lenA, builtinA, newA, unA, packA, Value.cells]; rfl); first | rfl | exact ⟨rfl, rfl, rfl⟩))
        intro _
        ((with_reducible first | apply ret_i | apply ret_n); (simp only [Nat.reduceEqDiff, Nat.reduceAdd, ↓reduceIte, xBB, resA, opdA, opdO, plainN, omap, val, loadV, readA, packA]; rfl))
        refine ⟨?_, rfl⟩
        rw [List.drop_eq_nil_of_le (by simp at hlt; omega), List.drop_eq_nil_of_le (by simp at hlt; omega)] at heq
        rw [← eqI_dec, ← heq]; rfl

/-- The set of some nodes. -/
def bitsN (l : List Int) : Nat := l.foldl (fun s x => s ||| 2 ^ x.toNat) 0
theorem bitsN_snoc (l : List Int) (x : Int) : bitsN (l ++ [x]) = bitsN l ||| 2 ^ x.toNat := by unfold bitsN; rw [List.foldl_append]; rfl
theorem bitsN_lt {l : List Int} {n : Nat} (h : ∀ x ∈ l, 0 ≤ x ∧ x < n) : bitsN l < 2 ^ n := by
  unfold bitsN
  have : ∀ (l : List Int) (s : Nat), (∀ x ∈ l, 0 ≤ x ∧ x < n) → s < 2 ^ n → l.foldl (fun s x => s ||| 2 ^ x.toNat) s < 2 ^ n := by
    intro l
    induction l with
    | nil => intro s _ h; exact h
    | cons x l ih =>
      intro s h1 h2
      have := h1 x List.mem_cons_self
      exact ih _ (fun y hy => h1 y (List.mem_cons_of_mem _ hy)) (setBit_lt h2 (by omega))
  exact this l 0 h (Nat.two_pow_pos n)
theorem bitsN_bit (l : List Int) (j : Nat) : (bitsN l).testBit j = decide (∃ x ∈ l, x.toNat = j) := by
  unfold bitsN
  have : ∀ (l : List Int) (s : Nat), (l.foldl (fun s x => s ||| 2 ^ x.toNat) s).testBit j = (s.testBit j || decide (∃ x ∈ l, x.toNat = j)) := by
    intro l
    induction l with
    | nil => intro s; simp
    | cons x l ih =>
      intro s
      rw [List.foldl_cons, ih, setBit, Bool.or_assoc]
      congr 1
      rw [← Bool.decide_or]
      congr 1
      simp [eq_comm]
  rw [this]; simp

theorem f23_spec [Sorts Tryd.prog] (l : List Int) (lv : Value) (s : HS) (hl : Sl s 1 lv (l.map encI)) (hll : l.length < 1000000000) (hin : ∀ x ∈ l, 0 ≤ x ∧ x < 62) :
    wpF Tryd.prog s.nx 23 [lv] s (fun v s' => v = .int .i64 (bitsN l) ∧ s' = s) := by
  obtain ⟨b, c, rfl⟩ := hl.shape
  refine wpF_of Tryd.func23 rfl rfl rfl rfl (Nat.le_refl _) ?_
  simp only [paramsA]
  repeat (first
  | with_reducible first | refine st (by constructor) ?_ | apply c_region
  | (with_reducible apply k_block_on
     · decide)
  | ((with_reducible first | apply xOp | apply xDr | apply xIf); rfl; (simp only [Nat.reduceEqDiff, Nat.reduceAdd, ↓reduceIte, xBB, stG, undef, opA, val, opdA, opdO, plainN, omap, binA, intBinA, loadV, readA, storeV, writeA, fieldAddrA, indexAddrA, lenA, builtinA, newA, unA, packA, Value.cells]; rfl); first | rfl | exact ⟨rfl, rfl, rfl⟩))
  refine loop_k (lk' := s.nx) (s0 := s) (fun m f t => t = s ∧ ∃ k : Nat, k + m = l.length ∧ f.get 4 = some (.int .i64 k) ∧ f.get 3 = some (.int .i64 (bitsN (l.take k)))) l.length (Nat.le_refl _) (Nat.le_refl _) ?_ (Ab.refl _ _) ?_
  · exact ⟨rfl, 0, by omega, by simp only [Nat.reduceEqDiff, T.get_put, ↓reduceIte]; rfl, by simp only [Nat.reduceEqDiff, T.get_put, ↓reduceIte]; rfl⟩
  · rintro m f t ⟨rfl, k, hk, h4, h3⟩ hA hF
    (have k0 := hF 0 (by rfl); simp only [Nat.reduceEqDiff, T.get_put, ↓reduceIte] at k0)
    by_cases hlt : (k : Int) < ((l.map encI).length : Int)
    · have hlt' : k < l.length := by simp at hlt; omega
      obtain ⟨id, off, wr, e, cs, rfl, g1, g2, g3, g4⟩ := hl.at (i := k) (x := encI l[k]) (by simp [hlt'])
      have hb : (0 : Int) ≤ (k : Int) ∧ (k : Int) < ((l.map encI).length : Int) := ⟨by omega, hlt⟩
      have hw : IntKind.i64.wrap ((k : Int) + 1) = ((k + 1 : Nat) : Int) := by rw [IntWalk.i64_in _ (by omega)]; rfl
      obtain ⟨q1, q2⟩ := hin l[k] (List.getElem_mem hlt')
      obtain ⟨i, hi⟩ : ∃ i : Nat, l[k] = (i : Int) := ⟨l[k].toNat, by omega⟩
      simp only [encI] at g3
      rw [hi] at g3
      have hsh := shl_i64 (k := i) (by omega)
      have hlt3 : bitsN (l.take k) < 2 ^ 62 := bitsN_lt fun x hx => hin x (List.mem_of_mem_take hx)
      have hor := or_i64 (a := bitsN (l.take k)) (b := 2 ^ i) (by omega) (Nat.pow_lt_pow_right (by decide) (by omega))
      repeat (first
  | with_reducible first | refine st (by constructor) ?_ | apply c_region
  | (with_reducible apply k_block_on
     · decide)
  | ((with_reducible first | apply xOp | apply xDr | apply xIf); rfl; (simp only [Nat.reduceEqDiff, Nat.reduceAdd, ↓reduceIte, xBB, stG, undef, opA, val, opdA, opdO, plainN, omap, binA, intBinA, loadV, readA, storeV, writeA, fieldAddrA, indexAddrA, lenA, builtinA, newA, unA, packA, Value.cells, h4, h3, k0, un35, hlt, sz3, ty3, hb, g1, g3, hsh, hor, hw]; rfl); first | rfl | exact ⟨rfl, rfl, rfl⟩))
      intro _ _
      refine k_loop_next (m' := m - 1) (by omega) ⟨rfl, k + 1, by omega, by simp only [Nat.reduceEqDiff, T.get_put, ↓reduceIte], ?_⟩
      simp only [Nat.reduceEqDiff, T.get_put, ↓reduceIte]
      rw [List.take_succ_eq_append_getElem hlt', bitsN_snoc, hi, Int.toNat_natCast]
    · repeat (first
  | with_reducible first | refine st (by constructor) ?_ | apply c_region
  | (with_reducible apply k_block_on
     · decide)
  | ((with_reducible first | apply xOp | apply xDr | apply xIf); rfl; (simp only [Nat.reduceEqDiff, Nat.reduceAdd, ↓reduceIte, xBB, stG, undef, opA, val, opdA, opdO, plainN, omap, binA, intBinA, loadV, readA, storeV, writeA, fieldAddrA, indexAddrA, lenA, builtinA, newA, unA, packA, Value.cells, h4, k0, un35, hlt]; rfl); first | rfl | exact ⟨rfl, rfl, rfl⟩))
      intro _ _
      repeat (first
  | with_reducible first | refine st (by constructor) ?_ | apply c_region
  | (with_reducible apply k_block_on
     · decide)
  | ((with_reducible first | apply xOp | apply xDr | apply xIf); rfl; (simp only [Nat.reduceEqDiff, Nat.reduceAdd, ↓reduceIte, xBB, stG, undef, opA, val, opdA, opdO, plainN, omap, binA, intBinA, loadV, readA, storeV, writeA, fieldAddrA, indexAddrA, lenA, builtinA, newA, unA, packA, Value.cells, h3]; rfl); first | rfl | exact ⟨rfl, rfl, rfl⟩))
      intro _
      ((with_reducible first | apply ret_i | apply ret_n); (simp only [Nat.reduceEqDiff, Nat.reduceAdd, ↓reduceIte, xBB, resA, opdA, opdO, plainN, omap, val, loadV, readA, packA]; rfl))
      refine ⟨?_, rfl⟩
      rw [List.take_of_length_le (by simp at hlt; omega)]; rfl
end Go.Ev

/- The model: nodes, hull. -/
namespace Go.Ev
open Go Go.Proofs
set_option linter.unusedSimpArgs false
set_option linter.unusedVariables false
set_option maxRecDepth 100000
set_option maxHeartbeats 4000000
attribute [local irreducible] wpOps wpC wpD wpF wpLoop wpCall seqK blockK loopK retK T.put T.get T.setF

/-- The nodes of a set, in order, below a number. -/
def nodesL (a n : Nat) : List Int := ((List.range n).filter (fun i : Nat => a.testBit i)).map (fun i : Nat => (i : Int))
theorem nodesL_succ (a n : Nat) : nodesL a (n + 1) = nodesL a n ++ (if a.testBit n then [(n : Int)] else []) := by
  unfold nodesL
  rw [List.range_succ, List.filter_append, List.map_append]
  cases h : a.testBit n with
  | true => rw [List.filter_cons_of_pos h]; rfl
  | false => rw [List.filter_cons_of_neg (by simp [h])]; rfl
theorem nodesL_high {a k : Nat} (h : a >>> k = 0) : ∀ n, k ≤ n → nodesL a n = nodesL a k := by
  intro n
  induction n with
  | zero => intro h; rw [show k = 0 by omega]
  | succ n ih =>
    intro hk
    by_cases hkn : k = n + 1
    · rw [hkn]
    · rw [nodesL_succ, ih (by omega)]
      have : a.testBit n = false := by
        have h2 := Nat.testBit_shiftRight (i := k) (j := n - k) a
        rw [h, show k + (n - k) = n by omega] at h2
        simpa using h2.symm
      rw [this]; simp
theorem nodesL_len (a n : Nat) : (nodesL a n).length ≤ n := by
  unfold nodesL
  rw [List.length_map]
  exact Nat.le_trans (List.length_filter_le _ _) (by simp)
theorem mem_nodesL {a n : Nat} {x : Int} : x ∈ nodesL a n ↔ 0 ≤ x ∧ x < n ∧ a.testBit x.toNat = true := by
  unfold nodesL
  simp only [List.mem_map, List.mem_filter, List.mem_range]
  constructor
  · rintro ⟨i, ⟨h1, h2⟩, rfl⟩; exact ⟨by omega, by omega, by simpa using h2⟩
  · rintro ⟨h1, h2, h3⟩; exact ⟨x.toNat, ⟨by omega, h3⟩, by omega⟩

theorem f18_spec [Sorts Tryd.prog] (a : Nat) (s : HS) (ha : a < 2 ^ 62) : wpF Tryd.prog s.nx 18 [.int .i64 a] s (fun v s' => ∃ o, Own s' 3 1 o v ((nodesL a 62).map encI) ∧ newer s o) := by
  have ha3 : a < 2 ^ 63 := Nat.lt_trans ha (by decide)
  refine wpF_of Tryd.func18 rfl rfl rfl rfl (Nat.le_refl _) ?_
  simp only [paramsA]
  repeat (first
  | with_reducible first | refine st (by constructor) ?_ | apply c_region
  | (with_reducible apply k_block_on
     · decide)
  | ((with_reducible first | apply xOp | apply xDr | apply xIf); rfl; (simp only [Nat.reduceEqDiff, Nat.reduceAdd, ↓reduceIte, xBB, stG, undef, opA, val, opdA, opdO, plainN, omap, binA, intBinA, loadV, readA, storeV, writeA, fieldAddrA, indexAddrA, lenA, builtinA, newA, unA, packA, Value.cells]; rfl); first | rfl | exact ⟨rfl, rfl, rfl⟩))
  refine loop_k (lk' := s.nx) (s0 := s) (fun m f t => ∃ k : Nat, k + m = 62 ∧ f.get 4 = some (.int .i64 k) ∧ ∃ o v, f.get 3 = some v ∧ Own t 3 1 o v ((nodesL a k).map encI) ∧ newer s o) 62 (Nat.le_refl _) (Nat.le_refl _) ?_ (Ab.refl _ _) ?_
  · exact ⟨0, by omega, by simp only [Nat.reduceEqDiff, T.get_put, ↓reduceIte]; rfl, none, .slice none 0 0, by simp only [Nat.reduceEqDiff, T.get_put, ↓reduceIte], ⟨rfl, rfl⟩, fun _ h => (by cases h)⟩
  · rintro m f t ⟨k, hk, h4, o, v, h3, hown, hnew⟩ hA hF
    (have k0 := hF 0 (by rfl); simp only [Nat.reduceEqDiff, T.get_put, ↓reduceIte] at k0)
    have hsh := shr_i64 (a := a) (k := k) ha3
    by_cases hz : (((a >>> k : Nat) : Int)) > 0
    · have hkm : k < 62 := by
        rcases Nat.lt_or_ge k 62 with h | h
        · exact h
        · have : a >>> k = 0 := by rw [Nat.shiftRight_eq_div_pow]; exact Nat.div_eq_of_lt (Nat.lt_of_lt_of_le ha (Nat.pow_le_pow_right (by decide) h))
          omega
      have hand := and_one (a := a >>> k) (shr_lt ha3)
      have hbit := bit_eq a k
      have hw : IntKind.i64.wrap ((k : Int) + 1) = ((k + 1 : Nat) : Int) := by rw [IntWalk.i64_in _ (by omega)]; rfl
      by_cases hb : a.testBit k = true
      · repeat (first
  | with_reducible first | refine st (by constructor) ?_ | apply c_region
  | (with_reducible apply k_block_on
     · decide)
  | ((with_reducible first | apply xOp | apply xDr | apply xIf); rfl; (simp only [Nat.reduceEqDiff, Nat.reduceAdd, ↓reduceIte, xBB, stG, undef, opA, val, opdA, opdO, plainN, omap, binA, intBinA, loadV, readA, storeV, writeA, fieldAddrA, indexAddrA, lenA, builtinA, newA, unA, packA, Value.cells, h4, k0, hsh, hz, hand, hbit, hb, buildSliceA, el35, sz3, zr3, zerosL, fillA, h3]; rfl); first | rfl | exact ⟨rfl, rfl, rfl⟩))
        ((with_reducible first | apply ops_opt | apply xPd); (first | rfl | exact ⟨rfl, rfl⟩); (simp only [Nat.reduceEqDiff, Nat.reduceAdd, ↓reduceIte, xBB, opA, val, opdA, opdO, plainN, omap, binA, intBinA, loadV, readA, storeV, writeA, fieldAddrA, indexAddrA, lenA, builtinA, newA, unA, packA, Value.cells, un35, h3]; rfl))
        have hlen := nodesL_len a k
        have hown2 : Own { hp := t.hp.put t.nx (some (.cells true 3 [.int .i64 k])), nx := t.nx + 1 } 3 1 o v ((nodesL a k).map encI) :=
          hown.same (Nat.le_succ _) fun id h => T.get_put_ne _ _ _ (by have := hown.lt h; omega)
        refine opt_ex (app_one (lk := s.nx) (y := [.int .i64 k]) el35 sz3 by3 zr3 rfl (by decide) hown2 hnew (T.get_put_eq _ _ _) rfl rfl (by simp; omega)) fun q hq => ?_
        obtain ⟨v', s1⟩ := q
        obtain ⟨q1, q2, o', q3, q4⟩ := hq
        refine opt_of rfl ?_
        repeat (first
  | with_reducible first | refine st (by constructor) ?_ | apply c_region
  | (with_reducible apply k_block_on
     · decide)
  | ((with_reducible first | apply xOp | apply xDr | apply xIf); rfl; (simp only [Nat.reduceEqDiff, Nat.reduceAdd, ↓reduceIte, xBB, stG, undef, opA, val, opdA, opdO, plainN, omap, binA, intBinA, loadV, readA, storeV, writeA, fieldAddrA, indexAddrA, lenA, builtinA, newA, unA, packA, Value.cells, hw, h4]; rfl); first | rfl | exact ⟨rfl, rfl, rfl⟩))
        intro _ _
        refine k_loop_next (m' := m - 1) (by omega) ⟨k + 1, by omega, by simp only [Nat.reduceEqDiff, T.get_put, ↓reduceIte], o', v', by simp only [Nat.reduceEqDiff, T.get_put, ↓reduceIte], ?_, fun id h => ?_⟩
        · rw [nodesL_succ, if_pos hb, List.map_append]; exact q3
        · rcases q4 with rfl | rfl
          · exact hnew id h
          · cases h; have := hA.nx; show s.nx ≤ t.nx + 1; omega
      · simp only [Bool.not_eq_true] at hb
        repeat (first
  | with_reducible first | refine st (by constructor) ?_ | apply c_region
  | (with_reducible apply k_block_on
     · decide)
  | ((with_reducible first | apply xOp | apply xDr | apply xIf); rfl; (simp only [Nat.reduceEqDiff, Nat.reduceAdd, ↓reduceIte, xBB, stG, undef, opA, val, opdA, opdO, plainN, omap, binA, intBinA, loadV, readA, storeV, writeA, fieldAddrA, indexAddrA, lenA, builtinA, newA, unA, packA, Value.cells, h4, k0, hsh, hz, hand, hbit, hb, hw]; rfl); first | rfl | exact ⟨rfl, rfl, rfl⟩))
        intro _ _
        refine k_loop_next (m' := m - 1) (by omega) ⟨k + 1, by omega, by simp only [Nat.reduceEqDiff, T.get_put, ↓reduceIte], o, v, by simp only [Nat.reduceEqDiff, T.get_put, ↓reduceIte, h3], ?_, hnew⟩
        rw [nodesL_succ, hb]; simpa using hown
    · repeat (first
  | with_reducible first | refine st (by constructor) ?_ | apply c_region
  | (with_reducible apply k_block_on
     · decide)
  | ((with_reducible first | apply xOp | apply xDr | apply xIf); rfl; (simp only [Nat.reduceEqDiff, Nat.reduceAdd, ↓reduceIte, xBB, stG, undef, opA, val, opdA, opdO, plainN, omap, binA, intBinA, loadV, readA, storeV, writeA, fieldAddrA, indexAddrA, lenA, builtinA, newA, unA, packA, Value.cells, h4, k0, hsh, hz]; rfl); first | rfl | exact ⟨rfl, rfl, rfl⟩))
      intro _ _
      repeat (first
  | with_reducible first | refine st (by constructor) ?_ | apply c_region
  | (with_reducible apply k_block_on
     · decide)
  | ((with_reducible first | apply xOp | apply xDr | apply xIf); rfl; (simp only [Nat.reduceEqDiff, Nat.reduceAdd, ↓reduceIte, xBB, stG, undef, opA, val, opdA, opdO, plainN, omap, binA, intBinA, loadV, readA, storeV, writeA, fieldAddrA, indexAddrA, lenA, builtinA, newA, unA, packA, Value.cells, h3]; rfl); first | rfl | exact ⟨rfl, rfl, rfl⟩))
      intro _
      ((with_reducible first | apply ret_i | apply ret_n); (simp only [Nat.reduceEqDiff, Nat.reduceAdd, ↓reduceIte, xBB, resA, opdA, opdO, plainN, omap, val, loadV, readA, packA]; rfl))
      refine ⟨o, ?_, hnew⟩
      have hz0 : a >>> k = 0 := by generalize a >>> k = z at hz; omega
      rw [nodesL_high hz0 62 (by omega)]
      exact hown

/-- One edge of the model's hull. -/
def hullStep (set : Nat) (e : Int × Int) : Nat := if set.testBit e.1.toNat then set ||| 2 ^ e.2.toNat else set
def hullRound (es : List (Int × Int)) (set : Nat) : Nat := es.foldl hullStep set
def hullN (es : List (Int × Int)) : Nat → Nat → Nat
  | 0, set => set
  | k + 1, set => hullRound es (hullN es k set)

theorem hullStep_lt {set n : Nat} {e : Int × Int} (h : set < 2 ^ n) (he : e.2.toNat < n) : hullStep set e < 2 ^ n := by
  unfold hullStep
  split
  · exact setBit_lt h he
  · exact h
theorem foldl_lt {n : Nat} : ∀ {es : List (Int × Int)} {set : Nat}, set < 2 ^ n → (∀ e ∈ es, e.2.toNat < n) → es.foldl hullStep set < 2 ^ n := by
  intro es
  induction es with
  | nil => intro set h _; exact h
  | cons e es ih => intro set h he; exact ih (hullStep_lt h (he e List.mem_cons_self)) fun x hx => he x (List.mem_cons_of_mem _ hx)
theorem hullN_lt {n : Nat} {es : List (Int × Int)} {set : Nat} (h : set < 2 ^ n) (he : ∀ e ∈ es, e.2.toNat < n) : ∀ k, hullN es k set < 2 ^ n := by
  intro k
  induction k with
  | zero => exact h
  | succ k ih => exact foldl_lt ih he

theorem f22_spec [Sorts Tryd.prog] (n : Int) (es : List (Int × Int)) (ev : Value) (a : Nat) (s : HS) (hs : Sl s 2 ev (es.map encE)) (hg : GoodG n es) (hn : n < 62) (ha : a < 2 ^ 62) :
    wpF Tryd.prog s.nx 22 [vG n ev, .int .i64 a] s (fun v s' => v = .int .i64 (hullN es n.toNat a)) := by
  obtain ⟨b, c, rfl⟩ := hs.shape
  obtain ⟨hn0, hn1, hlen, hins⟩ := hg
  have he62 : ∀ e ∈ es, e.2.toNat < 62 := fun e he => by have := hins e he; omega
  refine wpF_of Tryd.func22 rfl rfl rfl rfl (Nat.le_refl _) ?_
  simp only [paramsA, vG]
  repeat (first
  | with_reducible first | refine st (by constructor) ?_ | apply c_region
  | (with_reducible apply k_block_on
     · decide)
  | ((with_reducible first | apply xOp | apply xDr | apply xIf); rfl; (simp only [Nat.reduceEqDiff, Nat.reduceAdd, ↓reduceIte, xBB, stG, undef, opA, val, opdA, opdO, plainN, omap, binA, intBinA, loadV, readA, storeV, writeA, fieldAddrA, indexAddrA, lenA, builtinA, newA, unA, packA, Value.cells]; rfl); first | rfl | exact ⟨rfl, rfl, rfl⟩))
  have hA0 := Ab.new (lk := s.nx) s (.cells true 28 [.int .i64 n, .slice b (es.map encE).length c])
  have hs1 := hs.keep hA0
  refine loop_k (lk' := s.nx + 1) (s0 := ⟨_, s.nx + 1⟩) (fun m f t => ∃ k : Nat, k + m = n.toNat ∧ f.get 5 = some (.int .i64 k) ∧ f.get 1 = some (.int .i64 (hullN es k a))) n.toNat (Nat.le_succ _) (Nat.le_refl _) ?_ (Ab.refl _ _) ?_
  · exact ⟨0, by omega, by simp only [Nat.reduceEqDiff, T.get_put, ↓reduceIte]; rfl, by simp only [Nat.reduceEqDiff, Nat.reduceAdd, Nat.zero_add, T.get_put, ↓reduceIte]; rfl⟩
  · rintro m f t ⟨k, hk, h5, h1⟩ hA hF
    (have k2 := hF 2 (by rfl); simp only [Nat.reduceEqDiff, T.get_put, ↓reduceIte] at k2)
    have hbox := hA.get (Nat.le_refl _) (Nat.lt_succ_self s.nx)
    rw [T.get_put_eq] at hbox
    have hst := hs1.keep hA
    have hnx := hA.nx
    dsimp only at hnx
    by_cases hlt : (k : Int) < n
    · repeat (first
  | with_reducible first | refine st (by constructor) ?_ | apply c_region
  | (with_reducible apply k_block_on
     · decide)
  | ((with_reducible first | apply xOp | apply xDr | apply xIf); rfl; (simp only [Nat.reduceEqDiff, Nat.reduceAdd, ↓reduceIte, xBB, stG, undef, opA, val, opdA, opdO, plainN, omap, binA, intBinA, loadV, readA, storeV, writeA, fieldAddrA, indexAddrA, lenA, builtinA, newA, unA, packA, Value.cells, h5, k2, fd28_0, ty3, hbox, hlt]; rfl); first | rfl | exact ⟨rfl, rfl, rfl⟩))
      have b2 := k2
      refine loop_k (lk' := t.nx) (s0 := t) (fun m f u => u = t ∧ ∃ j : Nat, j + m = es.length ∧ f.get 6 = some (.int .i64 j) ∧ f.get 1 = some (.int .i64 (((es.take j).foldl hullStep (hullN es k a) : Nat) : Int))) es.length hnx (Nat.le_refl _) ?_ (Ab.refl _ _) ?_
      · exact ⟨rfl, 0, by omega, by simp only [Nat.reduceEqDiff, T.get_put, ↓reduceIte]; rfl, by simp only [Nat.reduceEqDiff, T.get_put, ↓reduceIte, h1]; rfl⟩
      · clear h1
        have h5' := h5
        clear hF
        rintro m2 f2 u ⟨rfl, j, hj, h6, h1⟩ hA2 hF
        (have k2 := hF 2 (by rfl); simp only [Nat.reduceEqDiff, T.get_put, ↓reduceIte, b2, h5'] at k2; have k5 := hF 5 (by rfl); simp only [Nat.reduceEqDiff, T.get_put, ↓reduceIte, b2, h5'] at k5)
        by_cases hjl : (j : Int) < ((es.map encE).length : Int)
        · have hjl' : j < es.length := by simp at hjl; omega
          obtain ⟨id, off, wr, e, cs, rfl, g1, g2, g3, g4⟩ := hst.at (i := j) (x := encE es[j]) (by simp [hjl'])
          have hb : (0 : Int) ≤ (j : Int) ∧ (j : Int) < ((es.map encE).length : Int) := ⟨by omega, hjl⟩
          have hw : IntKind.i64.wrap ((j : Int) + 1) = ((j + 1 : Nat) : Int) := by rw [IntWalk.i64_in _ (by omega)]; rfl
          obtain ⟨q1, q2, q3, q4⟩ := hins es[j] (List.getElem_mem hjl')
          obtain ⟨x, hx⟩ : ∃ x : Nat, es[j].1 = (x : Int) := ⟨es[j].1.toNat, by omega⟩
          obtain ⟨y, hy⟩ : ∃ y : Nat, es[j].2 = (y : Int) := ⟨es[j].2.toNat, by omega⟩
          simp only [encE, hx, hy] at g3
          obtain ⟨p3, p4⟩ := cut_pair g3
          rw [Nat.add_assoc] at p4
          have hset : (es.take j).foldl hullStep (hullN es k a) < 2 ^ 62 := foldl_lt (hullN_lt ha he62 k) fun e he => he62 e (List.mem_of_mem_take he)
          generalize hS : (es.take j).foldl hullStep (hullN es k a) = S at *
          have hS3 : S < 2 ^ 63 := Nat.lt_trans hset (by decide)
          have hsh := shr_i64 (a := S) (k := x) hS3
          have hand := and_one (a := S >>> x) (shr_lt hS3)
          have hbit := bit_eq S x
          have hnext : (es.take (j + 1)).foldl hullStep (hullN es k a) = hullStep S es[j] := by
            rw [List.take_succ_eq_append_getElem hjl', List.foldl_append, hS]; rfl
          by_cases hbt : S.testBit x = true
          · have hshl := shl_i64 (k := y) (by omega)
            have hor := or_i64 (a := S) (b := 2 ^ y) hS3 (Nat.pow_lt_pow_right (by decide) (by omega))
            repeat (first
  | with_reducible first | refine st (by constructor) ?_ | apply c_region
  | (with_reducible apply k_block_on
     · decide)
  | ((with_reducible first | apply xOp | apply xDr | apply xIf); rfl; (simp only [Nat.reduceEqDiff, Nat.reduceAdd, ↓reduceIte, xBB, stG, undef, opA, val, opdA, opdO, plainN, omap, binA, intBinA, loadV, readA, storeV, writeA, fieldAddrA, indexAddrA, lenA, builtinA, newA, unA, packA, Value.cells, h6, h1, k2, fd28_1, ty26, hbox, un26, hjl, sz58, hb, fd58_0, fd58_1, ty3, g1, p3, p4, hsh, hand, hbit, hbt, hshl, hor, hw]; rfl); first | rfl | exact ⟨rfl, rfl, rfl⟩))
            intro _ _
            refine k_loop_next (m' := m2 - 1) (by omega) ⟨rfl, j + 1, by omega, by simp only [Nat.reduceEqDiff, T.get_put, ↓reduceIte], ?_⟩
            simp only [Nat.reduceEqDiff, T.get_put, ↓reduceIte]
            rw [hnext, hullStep, hx, hy, Int.toNat_natCast, Int.toNat_natCast, if_pos hbt]
          · simp only [Bool.not_eq_true] at hbt
            repeat (first
  | with_reducible first | refine st (by constructor) ?_ | apply c_region
  | (with_reducible apply k_block_on
     · decide)
  | ((with_reducible first | apply xOp | apply xDr | apply xIf); rfl; (simp only [Nat.reduceEqDiff, Nat.reduceAdd, ↓reduceIte, xBB, stG, undef, opA, val, opdA, opdO, plainN, omap, binA, intBinA, loadV, readA, storeV, writeA, fieldAddrA, indexAddrA, lenA, builtinA, newA, unA, packA, Value.cells, h6, h1, k2, fd28_1, ty26, hbox, un26, hjl, sz58, hb, fd58_0, fd58_1, ty3, g1, p3, p4, hsh, hand, hbit, hbt, hw]; rfl); first | rfl | exact ⟨rfl, rfl, rfl⟩))
            intro _ _
            refine k_loop_next (m' := m2 - 1) (by omega) ⟨rfl, j + 1, by omega, by simp only [Nat.reduceEqDiff, T.get_put, ↓reduceIte], ?_⟩
            simp only [Nat.reduceEqDiff, T.get_put, ↓reduceIte, h1]
            rw [hnext, hullStep, hx, Int.toNat_natCast, if_neg (by simp [hbt])]
        · have hall : es.take j = es := List.take_of_length_le (by simp at hjl; omega)
          rw [hall] at h1
          have hw : IntKind.i64.wrap ((k : Int) + 1) = ((k + 1 : Nat) : Int) := by rw [IntWalk.i64_in _ (by omega)]; rfl
          repeat (first
  | with_reducible first | refine st (by constructor) ?_ | apply c_region
  | (with_reducible apply k_block_on
     · decide)
  | ((with_reducible first | apply xOp | apply xDr | apply xIf); rfl; (simp only [Nat.reduceEqDiff, Nat.reduceAdd, ↓reduceIte, xBB, stG, undef, opA, val, opdA, opdO, plainN, omap, binA, intBinA, loadV, readA, storeV, writeA, fieldAddrA, indexAddrA, lenA, builtinA, newA, unA, packA, Value.cells, h6, k2, fd28_1, ty26, hbox, un26, hjl]; rfl); first | rfl | exact ⟨rfl, rfl, rfl⟩))
          intro _ _
          repeat (first
  | with_reducible first | refine st (by constructor) ?_ | apply c_region
  | (with_reducible apply k_block_on
     · decide)
  | ((with_reducible first | apply xOp | apply xDr | apply xIf); rfl; (simp only [Nat.reduceEqDiff, Nat.reduceAdd, ↓reduceIte, xBB, stG, undef, opA, val, opdA, opdO, plainN, omap, binA, intBinA, loadV, readA, storeV, writeA, fieldAddrA, indexAddrA, lenA, builtinA, newA, unA, packA, Value.cells, k5, hw]; rfl); first | rfl | exact ⟨rfl, rfl, rfl⟩))
          intro _ _
          exact k_loop_next (m' := m - 1) (by omega) ⟨k + 1, by omega, by simp only [Nat.reduceEqDiff, T.get_put, ↓reduceIte], by simp only [Nat.reduceEqDiff, T.get_put, ↓reduceIte, h1]; rfl⟩
    · repeat (first
  | with_reducible first | refine st (by constructor) ?_ | apply c_region
  | (with_reducible apply k_block_on
     · decide)
  | ((with_reducible first | apply xOp | apply xDr | apply xIf); rfl; (simp only [Nat.reduceEqDiff, Nat.reduceAdd, ↓reduceIte, xBB, stG, undef, opA, val, opdA, opdO, plainN, omap, binA, intBinA, loadV, readA, storeV, writeA, fieldAddrA, indexAddrA, lenA, builtinA, newA, unA, packA, Value.cells, h5, k2, fd28_0, ty3, hbox, hlt]; rfl); first | rfl | exact ⟨rfl, rfl, rfl⟩))
      intro _ _
      repeat (first
  | with_reducible first | refine st (by constructor) ?_ | apply c_region
  | (with_reducible apply k_block_on
     · decide)
  | ((with_reducible first | apply xOp | apply xDr | apply xIf); rfl; (simp only [Nat.reduceEqDiff, Nat.reduceAdd, ↓reduceIte, xBB, stG, undef, opA, val, opdA, opdO, plainN, omap, binA, intBinA, loadV, readA, storeV, writeA, fieldAddrA, indexAddrA, lenA, builtinA, newA, unA, packA, Value.cells, h1]; rfl); first | rfl | exact ⟨rfl, rfl, rfl⟩))
      intro _
      ((with_reducible first | apply ret_i | apply ret_n); (simp only [Nat.reduceEqDiff, Nat.reduceAdd, ↓reduceIte, xBB, resA, opdA, opdO, plainN, omap, val, loadV, readA, packA]; rfl))
      rw [show n.toNat = k by omega]; rfl
end Go.Ev
