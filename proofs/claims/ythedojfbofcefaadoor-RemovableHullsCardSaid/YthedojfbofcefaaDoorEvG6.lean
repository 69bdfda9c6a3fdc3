/- graph.reach. -/
import Derived.Test.YthedojfbofcefaaDoorEvBfs
namespace Go.Ev
open Go Go.Proofs
set_option linter.unusedSimpArgs false
set_option linter.unusedVariables false
set_option maxRecDepth 100000
set_option maxHeartbeats 4000000
attribute [local irreducible] wpOps wpC wpD wpF wpLoop wpCall seqK blockK loopK retK T.put T.get T.setF

theorem f59_spec (n : Int) (es : List (Int × Int)) (ev : Value) (l : List Int) (lv : Value) (s : HS) (hs : Sl s 2 ev (es.map encE)) (hl : Sl s 1 lv (l.map encI)) (hg : GoodG n es) (hll : l.length < 1000000) (hin : ∀ x ∈ l, 0 ≤ x ∧ x < n) :
    wpF Tryd.prog s.nx 59 [vG n ev, lv] s (fun v s' => ∃ (o : Nat) (seen : List Bool), s.nx ≤ o ∧ Own s' 4 1 (some o) v (seen.map encB) ∧ seen.length = n.toNat ∧ ∀ x, Mk seen x ↔ ∃ f ∈ l, Rch es f x) := by
  obtain ⟨b, c, rfl⟩ := hl.shape
  refine wpF_of Tryd.func59 rfl rfl rfl rfl (Nat.le_refl _) ?_
  simp only [paramsA, vG]
  repeat (first
      | with_reducible first | apply ops_end | apply d_end | apply k_seq | apply k_seq_ret | apply k_seq_exit | apply k_block | apply k_block_ret | apply k_block_here | apply c_seq | apply c_block | apply c_region | apply c_skip | apply c_ret | apply c_exit | apply c_loop | apply k_loop_exit | apply k_loop_ret
      | (with_reducible apply k_block_on
         · decide)
      | ((first
          | (with_reducible apply ops_do
             · rfl)
          | (with_reducible apply d_same
             · rfl
             · rfl))
         · (simp only [Nat.reduceEqDiff, opA, val, opdA, opdO, T.get_put, ↓reduceIte, Nat.add_assoc, Nat.reduceAdd, Nat.left_eq_add, Nat.add_eq_left, Nat.add_left_cancel_iff, Nat.add_zero, plainN, omap, Option.map_some, Option.bind_some, Nat.le_add_right, Nat.le_refl, binA, intBinA, loadV, readA, storeV, writeA, fieldAddrA, indexAddrA, lenA, builtinA, newA, unA, packA, if_true, and_self, and_true, true_and, Value.cells, Int.toNat_natCast, decide_true, decide_false, cond_true, cond_false]; rfl)
         · rfl
         try (· rfl))
      | ((first
          | (with_reducible apply d_do
             · rfl
             · rfl)
          | (with_reducible apply d_quiet
             · rfl
             · rfl
             · rfl))
         · (simp only [Nat.reduceEqDiff, opA, val, opdA, opdO, T.get_put, ↓reduceIte, Nat.add_assoc, Nat.reduceAdd, Nat.left_eq_add, Nat.add_eq_left, Nat.add_left_cancel_iff, Nat.add_zero, plainN, omap, Option.map_some, Option.bind_some, Nat.le_add_right, Nat.le_refl, binA, intBinA, loadV, readA, storeV, writeA, fieldAddrA, indexAddrA, lenA, builtinA, newA, unA, packA, if_true, and_self, and_true, true_and, Value.cells, Int.toNat_natCast, decide_true, decide_false, cond_true, cond_false]; rfl)
         first
         | · rfl
         | (· (simp only [Nat.reduceEqDiff, loadBlk, opdA, T.get_put, ↓reduceIte]; rfl)
            · rfl))
      | ((first
          | with_reducible apply ops_skipG
          | (with_reducible apply d_skip
             · rfl))
         · rfl
         · rfl
         · (simp only [Nat.reduceEqDiff, T.get_put, ↓reduceIte]; rfl)
         · (simp only [decide_true, decide_false, bt_tf, bt_ft, bt_tt, bt_ff]; done)
         · rfl)
      | ((first
          | with_reducible apply ops_doG
          | (with_reducible apply d_sameG
             · rfl))
         · rfl
         · rfl
         · (simp only [Nat.reduceEqDiff, T.get_put, ↓reduceIte]; rfl)
         · (simp only [decide_true, decide_false, bt_tf, bt_ft, bt_tt, bt_ff]; done)
         · (simp only [Nat.reduceEqDiff, opA, val, opdA, opdO, T.get_put, ↓reduceIte, Nat.add_assoc, Nat.reduceAdd, Nat.left_eq_add, Nat.add_eq_left, Nat.add_left_cancel_iff, Nat.add_zero, plainN, omap, Option.map_some, Option.bind_some, Nat.le_add_right, Nat.le_refl, binA, intBinA, loadV, readA, storeV, writeA, fieldAddrA, indexAddrA, lenA, builtinA, newA, unA, packA, if_true, and_self, and_true, true_and, Value.cells, Int.toNat_natCast, decide_true, decide_false, cond_true, cond_false]; rfl)
         · rfl
         try (· rfl))
      | (with_reducible apply c_if
         · (simp only [Nat.reduceEqDiff, opdA, opdO, T.get_put, ↓reduceIte, Nat.add_assoc, Nat.reduceAdd, Nat.left_eq_add, Nat.add_eq_left, Nat.add_left_cancel_iff, Nat.add_zero, plainN, omap, Option.map_some, Option.bind_some, Nat.le_add_right, Nat.le_refl, decide_true, decide_false]; rfl)
         with_reducible first | apply if_t | apply if_f))
  have hA0 := Ab.new (lk := s.nx) s (.cells true 28 [.int .i64 n, ev])
  refine c_draw [⟨false, [], none⟩, ⟨false, [], none⟩, ⟨false, [], none⟩, ⟨false, [0, 1], none⟩, ⟨false, [0, 1], none⟩, ⟨false, [], none⟩, ⟨true, [], none⟩] (by kernel_rfl) ?_
  repeat (first
      | with_reducible first | apply ops_end | apply d_end | apply k_seq | apply k_seq_ret | apply k_seq_exit | apply k_block | apply k_block_ret | apply k_block_here | apply c_seq | apply c_block | apply c_region | apply c_skip | apply c_ret | apply c_exit | apply c_loop | apply k_loop_exit | apply k_loop_ret
      | (with_reducible apply k_block_on
         · decide)
      | ((first
          | (with_reducible apply ops_do
             · rfl)
          | (with_reducible apply d_same
             · rfl
             · rfl))
         · (simp only [Nat.reduceEqDiff, opA, val, opdA, opdO, T.get_put, ↓reduceIte, Nat.add_assoc, Nat.reduceAdd, Nat.left_eq_add, Nat.add_eq_left, Nat.add_left_cancel_iff, Nat.add_zero, plainN, omap, Option.map_some, Option.bind_some, Nat.le_add_right, Nat.le_refl, binA, intBinA, loadV, readA, storeV, writeA, fieldAddrA, indexAddrA, lenA, builtinA, newA, unA, packA, if_true, and_self, and_true, true_and, Value.cells, Int.toNat_natCast, decide_true, decide_false, cond_true, cond_false, ty28]; rfl)
         · rfl
         try (· rfl))
      | ((first
          | (with_reducible apply d_do
             · rfl
             · rfl)
          | (with_reducible apply d_quiet
             · rfl
             · rfl
             · rfl))
         · (simp only [Nat.reduceEqDiff, opA, val, opdA, opdO, T.get_put, ↓reduceIte, Nat.add_assoc, Nat.reduceAdd, Nat.left_eq_add, Nat.add_eq_left, Nat.add_left_cancel_iff, Nat.add_zero, plainN, omap, Option.map_some, Option.bind_some, Nat.le_add_right, Nat.le_refl, binA, intBinA, loadV, readA, storeV, writeA, fieldAddrA, indexAddrA, lenA, builtinA, newA, unA, packA, if_true, and_self, and_true, true_and, Value.cells, Int.toNat_natCast, decide_true, decide_false, cond_true, cond_false, ty28]; rfl)
         first
         | · rfl
         | (· (simp only [Nat.reduceEqDiff, loadBlk, opdA, T.get_put, ↓reduceIte, ty28]; rfl)
            · rfl))
      | ((first
          | with_reducible apply ops_skipG
          | (with_reducible apply d_skip
             · rfl))
         · rfl
         · rfl
         · (simp only [Nat.reduceEqDiff, T.get_put, ↓reduceIte, ty28]; rfl)
         · (simp only [decide_true, decide_false, ty28, bt_tf, bt_ft, bt_tt, bt_ff]; done)
         · rfl)
      | ((first
          | with_reducible apply ops_doG
          | (with_reducible apply d_sameG
             · rfl))
         · rfl
         · rfl
         · (simp only [Nat.reduceEqDiff, T.get_put, ↓reduceIte, ty28]; rfl)
         · (simp only [decide_true, decide_false, ty28, bt_tf, bt_ft, bt_tt, bt_ff]; done)
         · (simp only [Nat.reduceEqDiff, opA, val, opdA, opdO, T.get_put, ↓reduceIte, Nat.add_assoc, Nat.reduceAdd, Nat.left_eq_add, Nat.add_eq_left, Nat.add_left_cancel_iff, Nat.add_zero, plainN, omap, Option.map_some, Option.bind_some, Nat.le_add_right, Nat.le_refl, binA, intBinA, loadV, readA, storeV, writeA, fieldAddrA, indexAddrA, lenA, builtinA, newA, unA, packA, if_true, and_self, and_true, true_and, Value.cells, Int.toNat_natCast, decide_true, decide_false, cond_true, cond_false, ty28]; rfl)
         · rfl
         try (· rfl))
      | (with_reducible apply c_if
         · (simp only [Nat.reduceEqDiff, opdA, opdO, T.get_put, ↓reduceIte, Nat.add_assoc, Nat.reduceAdd, Nat.left_eq_add, Nat.add_eq_left, Nat.add_left_cancel_iff, Nat.add_zero, plainN, omap, Option.map_some, Option.bind_some, Nat.le_add_right, Nat.le_refl, decide_true, decide_false, ty28]; rfl)
         with_reducible first | apply if_t | apply if_f))
  (first
      | ((first
          | with_reducible apply ops_call
          | (with_reducible apply d_call
             · rfl)
          | (with_reducible apply ops_callG
             · rfl
             · (simp only [Nat.reduceEqDiff, T.get_put, ↓reduceIte]; rfl)
             · (simp only [decide_true, decide_false, bt_tf, bt_ft, bt_tt, bt_ff]; done)))
         · (simp only [Nat.reduceEqDiff, opdA, opdO, T.get_put, ↓reduceIte, Nat.add_assoc, Nat.reduceAdd, Nat.left_eq_add, Nat.add_eq_left, Nat.add_left_cancel_iff, Nat.add_zero, plainN, omap, Option.map_some, Option.bind_some, Nat.le_add_right, Nat.le_refl]; rfl)
         · (simp only [Nat.reduceEqDiff, opdA, opdO, T.get_put, ↓reduceIte, Nat.add_assoc, Nat.reduceAdd, Nat.left_eq_add, Nat.add_eq_left, Nat.add_left_cancel_iff, Nat.add_zero, plainN, omap, Option.map_some, Option.bind_some, Nat.le_add_right, Nat.le_refl]; rfl)))
  apply call_fn
  refine (f69_spec n es ev _ (hs.keep hA0) hg).use (by first | exact Nat.le_refl _ | (simp only [cond_true, cond_false]; omega) | omega | (dsimp only; omega)) (by first | exact Nat.le_refl _ | (simp only [cond_true, cond_false]; omega) | omega | (dsimp only; omega)) fun v s1 hv hA1 => ?_
  obtain ⟨ob, rs, hob0, hob, hrows, hrl, hxs⟩ := hv
  dsimp only at hob0
  have hn1 := hA1.nx
  dsimp only at hn1
  have hbox := hA1.get (Nat.le_refl _) (Nat.lt_succ_self s.nx)
  rw [T.get_put_eq] at hbox
  refine opt_of rfl ?_
  repeat (first
      | with_reducible first | apply ops_end | apply d_end | apply k_seq | apply k_seq_ret | apply k_seq_exit | apply k_block | apply k_block_ret | apply k_block_here | apply c_seq | apply c_block | apply c_region | apply c_skip | apply c_ret | apply c_exit | apply c_loop | apply k_loop_exit | apply k_loop_ret
      | (with_reducible apply k_block_on
         · decide)
      | ((first
          | (with_reducible apply ops_do
             · rfl)
          | (with_reducible apply d_same
             · rfl
             · rfl))
         · (simp only [Nat.reduceEqDiff, opA, val, opdA, opdO, T.get_put, ↓reduceIte, Nat.add_assoc, Nat.reduceAdd, Nat.left_eq_add, Nat.add_eq_left, Nat.add_left_cancel_iff, Nat.add_zero, plainN, omap, Option.map_some, Option.bind_some, Nat.le_add_right, Nat.le_refl, binA, intBinA, loadV, readA, storeV, writeA, fieldAddrA, indexAddrA, lenA, builtinA, newA, unA, packA, if_true, and_self, and_true, true_and, Value.cells, Int.toNat_natCast, decide_true, decide_false, cond_true, cond_false, fd28_0]; rfl)
         · rfl
         try (· rfl))
      | ((first
          | (with_reducible apply d_do
             · rfl
             · rfl)
          | (with_reducible apply d_quiet
             · rfl
             · rfl
             · rfl))
         · (simp only [Nat.reduceEqDiff, opA, val, opdA, opdO, T.get_put, ↓reduceIte, Nat.add_assoc, Nat.reduceAdd, Nat.left_eq_add, Nat.add_eq_left, Nat.add_left_cancel_iff, Nat.add_zero, plainN, omap, Option.map_some, Option.bind_some, Nat.le_add_right, Nat.le_refl, binA, intBinA, loadV, readA, storeV, writeA, fieldAddrA, indexAddrA, lenA, builtinA, newA, unA, packA, if_true, and_self, and_true, true_and, Value.cells, Int.toNat_natCast, decide_true, decide_false, cond_true, cond_false, fd28_0]; rfl)
         first
         | · rfl
         | (· (simp only [Nat.reduceEqDiff, loadBlk, opdA, T.get_put, ↓reduceIte, fd28_0]; rfl)
            · rfl))
      | ((first
          | with_reducible apply ops_skipG
          | (with_reducible apply d_skip
             · rfl))
         · rfl
         · rfl
         · (simp only [Nat.reduceEqDiff, T.get_put, ↓reduceIte, fd28_0]; rfl)
         · (simp only [decide_true, decide_false, fd28_0, bt_tf, bt_ft, bt_tt, bt_ff]; done)
         · rfl)
      | ((first
          | with_reducible apply ops_doG
          | (with_reducible apply d_sameG
             · rfl))
         · rfl
         · rfl
         · (simp only [Nat.reduceEqDiff, T.get_put, ↓reduceIte, fd28_0]; rfl)
         · (simp only [decide_true, decide_false, fd28_0, bt_tf, bt_ft, bt_tt, bt_ff]; done)
         · (simp only [Nat.reduceEqDiff, opA, val, opdA, opdO, T.get_put, ↓reduceIte, Nat.add_assoc, Nat.reduceAdd, Nat.left_eq_add, Nat.add_eq_left, Nat.add_left_cancel_iff, Nat.add_zero, plainN, omap, Option.map_some, Option.bind_some, Nat.le_add_right, Nat.le_refl, binA, intBinA, loadV, readA, storeV, writeA, fieldAddrA, indexAddrA, lenA, builtinA, newA, unA, packA, if_true, and_self, and_true, true_and, Value.cells, Int.toNat_natCast, decide_true, decide_false, cond_true, cond_false, fd28_0]; rfl)
         · rfl
         try (· rfl))
      | (with_reducible apply c_if
         · (simp only [Nat.reduceEqDiff, opdA, opdO, T.get_put, ↓reduceIte, Nat.add_assoc, Nat.reduceAdd, Nat.left_eq_add, Nat.add_eq_left, Nat.add_left_cancel_iff, Nat.add_zero, plainN, omap, Option.map_some, Option.bind_some, Nat.le_add_right, Nat.le_refl, decide_true, decide_false, fd28_0]; rfl)
         with_reducible first | apply if_t | apply if_f))
  (first
      | (with_reducible apply d_lowS (lo := s.nx + 1)
         · rfl
         · rfl
         · rfl
         · (intro m hm hmm; simp only [List.mem_cons, List.not_mem_nil, or_false] at hm; first | (obtain rfl := hm; dsimp only; omega) | (rcases hm with rfl | rfl <;> first | omega | (dsimp only; omega) | (exfalso; revert hmm; decide)) | (rcases hm with rfl | rfl | rfl <;> first | omega | (dsimp only; omega) | (exfalso; revert hmm; decide)))
         · (intro sh hshn hshg; have l_hbox := (hshg _ (by omega)).trans hbox; simp only [Nat.reduceEqDiff, opA, val, opdA, opdO, T.get_put, ↓reduceIte, Nat.add_assoc, Nat.reduceAdd, Nat.left_eq_add, Nat.add_eq_left, Nat.add_left_cancel_iff, Nat.add_zero, plainN, omap, Option.map_some, Option.bind_some, Nat.le_add_right, Nat.le_refl, binA, intBinA, loadV, readA, storeV, writeA, fieldAddrA, indexAddrA, lenA, builtinA, newA, unA, packA, if_true, and_self, and_true, true_and, Value.cells, Int.toNat_natCast, decide_true, decide_false, cond_true, cond_false, ty3, l_hbox]; rfl)
         · rfl))
  intro s2 h2n h2g
  have hA2 : Ab s1.nx s1 s2 := Ab.ofEq h2n h2g
  have hmk : ∀ s : HS, makeSliceA Tryd.prog 95 (.int .i64 n) (.int .i64 n) s = some (.slice (some ⟨s.nx, 0, none⟩) n.toNat n.toNat, { hp := s.hp.put s.nx (some (.cells true 4 (zerosL [.bool false] n.toNat))), nx := s.nx + 1 }) := fun s => by
    obtain ⟨_, _, _, _⟩ := hg
    unfold makeSliceA
    simp only [el95, sz4, by4, zr4, Option.bind_some]
    rw [if_pos ⟨rfl, by decide, by omega, Int.le_refl _, by omega, by omega⟩]
    rfl
  refine d_low (lo := 0) rfl rfl rfl (by (intro m hm hmm; simp only [List.mem_cons, List.not_mem_nil, or_false] at hm; first | (obtain rfl := hm; dsimp only; omega) | (rcases hm with rfl | rfl <;> first | omega | (dsimp only; omega) | (exfalso; revert hmm; decide)) | (rcases hm with rfl | rfl | rfl <;> first | omega | (dsimp only; omega) | (exfalso; revert hmm; decide)))) fun sh hshn hshg => ?_
  refine ⟨_, by (simp only [Nat.reduceEqDiff, opA, val, opdA, opdO, T.get_put, ↓reduceIte, Nat.add_assoc, Nat.reduceAdd, Nat.left_eq_add, Nat.add_eq_left, Nat.add_left_cancel_iff, Nat.add_zero, plainN, omap, Option.map_some, Option.bind_some, Nat.le_add_right, Nat.le_refl, binA, intBinA, loadV, readA, storeV, writeA, fieldAddrA, indexAddrA, lenA, builtinA, newA, unA, packA, if_true, and_self, and_true, true_and, Value.cells, Int.toNat_natCast, decide_true, decide_false, cond_true, cond_false, hmk]; rfl), ?_⟩
  refine opt_of rfl ?_
  intro s3 hA3 h3n h3g
  dsimp only at h3n h3g
  have hseen3 : s3.hp.get s1.nx = some (.cells true 4 (zerosL [.bool false] n.toNat)) := by
    rw [h3g _ (by omega), T.get_put, if_pos (by omega)]
  have hA13 : Ab s1.nx s1 s3 := hA2.trans (hA3.lower (by omega) (by omega))
  have hA03 : Ab s.nx s s3 := hA0.trans ((hA1.lower (Nat.le_succ _) (Nat.le_refl _)).trans (hA13.lower (by omega) (Nat.le_refl _)))
  refine opt_of rfl ?_
  repeat (first
      | with_reducible first | apply ops_end | apply d_end | apply k_seq | apply k_seq_ret | apply k_seq_exit | apply k_block | apply k_block_ret | apply k_block_here | apply c_seq | apply c_block | apply c_region | apply c_skip | apply c_ret | apply c_exit | apply c_loop | apply k_loop_exit | apply k_loop_ret
      | (with_reducible apply k_block_on
         · decide)
      | ((first
          | (with_reducible apply ops_do
             · rfl)
          | (with_reducible apply d_same
             · rfl
             · rfl))
         · (simp only [Nat.reduceEqDiff, opA, val, opdA, opdO, T.get_put, ↓reduceIte, Nat.add_assoc, Nat.reduceAdd, Nat.left_eq_add, Nat.add_eq_left, Nat.add_left_cancel_iff, Nat.add_zero, plainN, omap, Option.map_some, Option.bind_some, Nat.le_add_right, Nat.le_refl, binA, intBinA, loadV, readA, storeV, writeA, fieldAddrA, indexAddrA, lenA, builtinA, newA, unA, packA, if_true, and_self, and_true, true_and, Value.cells, Int.toNat_natCast, decide_true, decide_false, cond_true, cond_false]; rfl)
         · rfl
         try (· rfl))
      | ((first
          | (with_reducible apply d_do
             · rfl
             · rfl)
          | (with_reducible apply d_quiet
             · rfl
             · rfl
             · rfl))
         · (simp only [Nat.reduceEqDiff, opA, val, opdA, opdO, T.get_put, ↓reduceIte, Nat.add_assoc, Nat.reduceAdd, Nat.left_eq_add, Nat.add_eq_left, Nat.add_left_cancel_iff, Nat.add_zero, plainN, omap, Option.map_some, Option.bind_some, Nat.le_add_right, Nat.le_refl, binA, intBinA, loadV, readA, storeV, writeA, fieldAddrA, indexAddrA, lenA, builtinA, newA, unA, packA, if_true, and_self, and_true, true_and, Value.cells, Int.toNat_natCast, decide_true, decide_false, cond_true, cond_false]; rfl)
         first
         | · rfl
         | (· (simp only [Nat.reduceEqDiff, loadBlk, opdA, T.get_put, ↓reduceIte]; rfl)
            · rfl))
      | ((first
          | with_reducible apply ops_skipG
          | (with_reducible apply d_skip
             · rfl))
         · rfl
         · rfl
         · (simp only [Nat.reduceEqDiff, T.get_put, ↓reduceIte]; rfl)
         · (simp only [decide_true, decide_false, bt_tf, bt_ft, bt_tt, bt_ff]; done)
         · rfl)
      | ((first
          | with_reducible apply ops_doG
          | (with_reducible apply d_sameG
             · rfl))
         · rfl
         · rfl
         · (simp only [Nat.reduceEqDiff, T.get_put, ↓reduceIte]; rfl)
         · (simp only [decide_true, decide_false, bt_tf, bt_ft, bt_tt, bt_ff]; done)
         · (simp only [Nat.reduceEqDiff, opA, val, opdA, opdO, T.get_put, ↓reduceIte, Nat.add_assoc, Nat.reduceAdd, Nat.left_eq_add, Nat.add_eq_left, Nat.add_left_cancel_iff, Nat.add_zero, plainN, omap, Option.map_some, Option.bind_some, Nat.le_add_right, Nat.le_refl, binA, intBinA, loadV, readA, storeV, writeA, fieldAddrA, indexAddrA, lenA, builtinA, newA, unA, packA, if_true, and_self, and_true, true_and, Value.cells, Int.toNat_natCast, decide_true, decide_false, cond_true, cond_false]; rfl)
         · rfl
         try (· rfl))
      | (with_reducible apply c_if
         · (simp only [Nat.reduceEqDiff, opdA, opdO, T.get_put, ↓reduceIte, Nat.add_assoc, Nat.reduceAdd, Nat.left_eq_add, Nat.add_eq_left, Nat.add_left_cancel_iff, Nat.add_zero, plainN, omap, Option.map_some, Option.bind_some, Nat.le_add_right, Nat.le_refl, decide_true, decide_false]; rfl)
         with_reducible first | apply if_t | apply if_f))
  (first
      | ((first
          | with_reducible apply ops_call
          | (with_reducible apply d_call
             · rfl)
          | (with_reducible apply ops_callG
             · rfl
             · (simp only [Nat.reduceEqDiff, T.get_put, ↓reduceIte]; rfl)
             · (simp only [decide_true, decide_false, bt_tf, bt_ft, bt_tt, bt_ff]; done)))
         · (simp only [Nat.reduceEqDiff, opdA, opdO, T.get_put, ↓reduceIte, Nat.add_assoc, Nat.reduceAdd, Nat.left_eq_add, Nat.add_eq_left, Nat.add_left_cancel_iff, Nat.add_zero, plainN, omap, Option.map_some, Option.bind_some, Nat.le_add_right, Nat.le_refl]; rfl)
         · (simp only [Nat.reduceEqDiff, opdA, opdO, T.get_put, ↓reduceIte, Nat.add_assoc, Nat.reduceAdd, Nat.left_eq_add, Nat.add_eq_left, Nat.add_left_cancel_iff, Nat.add_zero, plainN, omap, Option.map_some, Option.bind_some, Nat.le_add_right, Nat.le_refl]; rfl)))
  apply call_fn
  refine (f70_spec l _ s3 (hl.keep hA03) (by omega)).use hA03.nx (Nat.le_refl _) fun v4 s4 hv hA4 => ?_
  obtain ⟨oq, hoq, hnq⟩ := hv
  obtain ⟨qb, qc, rfl⟩ := hoq.shape
  have hn4 := hA4.nx
  have hseen4 : s4.hp.get s1.nx = some (.cells true 4 (zerosL [.bool false] n.toNat)) := by rw [hA4.get (Nat.le_refl _) (by omega)]; exact hseen3
  have hA14 : Ab s1.nx s1 s4 := hA13.trans (hA4.lower (by omega) (by omega))
  have hnq' : ∀ id, oq = some id → s1.nx < id := fun id h => by have := hnq id h; omega
  have hos : Own s4 4 1 (some s1.nx) (.slice (some ⟨s1.nx, 0, none⟩) n.toNat n.toNat) ((List.replicate n.toNat false).map encB) := by
    refine Own.block hseen4 ?_ (by omega) (by simp) (Or.inl rfl) (fun x hx => ?_) (by simp only [List.length_map, List.length_replicate]; have := hg.hi; unfold UNK; omega)
    · rw [zerosL_map, List.map_replicate]; rfl
    · obtain ⟨y, _, rfl⟩ := List.mem_map.1 hx; exact ⟨rfl, rfl⟩
  refine opt_of rfl ?_
  repeat (first
      | with_reducible first | apply ops_end | apply d_end | apply k_seq | apply k_seq_ret | apply k_seq_exit | apply k_block | apply k_block_ret | apply k_block_here | apply c_seq | apply c_block | apply c_region | apply c_skip | apply c_ret | apply c_exit | apply c_loop | apply k_loop_exit | apply k_loop_ret
      | (with_reducible apply k_block_on
         · decide)
      | ((first
          | (with_reducible apply ops_do
             · rfl)
          | (with_reducible apply d_same
             · rfl
             · rfl))
         · (simp only [Nat.reduceEqDiff, opA, val, opdA, opdO, T.get_put, ↓reduceIte, Nat.add_assoc, Nat.reduceAdd, Nat.left_eq_add, Nat.add_eq_left, Nat.add_left_cancel_iff, Nat.add_zero, plainN, omap, Option.map_some, Option.bind_some, Nat.le_add_right, Nat.le_refl, binA, intBinA, loadV, readA, storeV, writeA, fieldAddrA, indexAddrA, lenA, builtinA, newA, unA, packA, if_true, and_self, and_true, true_and, Value.cells, Int.toNat_natCast, decide_true, decide_false, cond_true, cond_false, un35]; rfl)
         · rfl
         try (· rfl))
      | ((first
          | (with_reducible apply d_do
             · rfl
             · rfl)
          | (with_reducible apply d_quiet
             · rfl
             · rfl
             · rfl))
         · (simp only [Nat.reduceEqDiff, opA, val, opdA, opdO, T.get_put, ↓reduceIte, Nat.add_assoc, Nat.reduceAdd, Nat.left_eq_add, Nat.add_eq_left, Nat.add_left_cancel_iff, Nat.add_zero, plainN, omap, Option.map_some, Option.bind_some, Nat.le_add_right, Nat.le_refl, binA, intBinA, loadV, readA, storeV, writeA, fieldAddrA, indexAddrA, lenA, builtinA, newA, unA, packA, if_true, and_self, and_true, true_and, Value.cells, Int.toNat_natCast, decide_true, decide_false, cond_true, cond_false, un35]; rfl)
         first
         | · rfl
         | (· (simp only [Nat.reduceEqDiff, loadBlk, opdA, T.get_put, ↓reduceIte, un35]; rfl)
            · rfl))
      | ((first
          | with_reducible apply ops_skipG
          | (with_reducible apply d_skip
             · rfl))
         · rfl
         · rfl
         · (simp only [Nat.reduceEqDiff, T.get_put, ↓reduceIte, un35]; rfl)
         · (simp only [decide_true, decide_false, un35, bt_tf, bt_ft, bt_tt, bt_ff]; done)
         · rfl)
      | ((first
          | with_reducible apply ops_doG
          | (with_reducible apply d_sameG
             · rfl))
         · rfl
         · rfl
         · (simp only [Nat.reduceEqDiff, T.get_put, ↓reduceIte, un35]; rfl)
         · (simp only [decide_true, decide_false, un35, bt_tf, bt_ft, bt_tt, bt_ff]; done)
         · (simp only [Nat.reduceEqDiff, opA, val, opdA, opdO, T.get_put, ↓reduceIte, Nat.add_assoc, Nat.reduceAdd, Nat.left_eq_add, Nat.add_eq_left, Nat.add_left_cancel_iff, Nat.add_zero, plainN, omap, Option.map_some, Option.bind_some, Nat.le_add_right, Nat.le_refl, binA, intBinA, loadV, readA, storeV, writeA, fieldAddrA, indexAddrA, lenA, builtinA, newA, unA, packA, if_true, and_self, and_true, true_and, Value.cells, Int.toNat_natCast, decide_true, decide_false, cond_true, cond_false, un35]; rfl)
         · rfl
         try (· rfl))
      | (with_reducible apply c_if
         · (simp only [Nat.reduceEqDiff, opdA, opdO, T.get_put, ↓reduceIte, Nat.add_assoc, Nat.reduceAdd, Nat.left_eq_add, Nat.add_eq_left, Nat.add_left_cancel_iff, Nat.add_zero, plainN, omap, Option.map_some, Option.bind_some, Nat.le_add_right, Nat.le_refl, decide_true, decide_false, un35]; rfl)
         with_reducible first | apply if_t | apply if_f))
  refine loop_k (lk' := s1.nx) (s0 := s4) (fun m f t => ∃ k : Nat, k + m = l.length ∧ f.get 22 = some (.int .i64 k) ∧ Own t 3 1 oq (.slice qb (l.map encI).length qc) (l.map encI) ∧
    ∃ seen : List Bool, Own t 4 1 (some s1.nx) (.slice (some ⟨s1.nx, 0, none⟩) n.toNat n.toNat) (seen.map encB) ∧ seen.length = n.toNat ∧ ∀ x, Mk seen x ↔ x ∈ l.take k) l.length (by omega) (by omega) ?_ (Ab.refl _ _) ?_
  · refine ⟨0, by omega, by simp only [Nat.reduceEqDiff, T.get_put, ↓reduceIte]; rfl, hoq, _, hos, by simp, fun x => ⟨fun h => ?_, fun h => by simp at h⟩⟩
    obtain ⟨_, h2⟩ := h
    rw [List.getElem?_replicate] at h2
    split at h2 <;> cases h2
  · rintro m f t ⟨k, hk, h22, hqt, seen, hst, hsl, hmk2⟩ hA hF
    (have k20 := hF 20 (by rfl); simp only [Nat.reduceEqDiff, T.get_put, ↓reduceIte, hshn, h2n] at k20; have k21 := hF 21 (by rfl); simp only [Nat.reduceEqDiff, T.get_put, ↓reduceIte, hshn, h2n] at k21; have k6 := hF 6 (by rfl); simp only [Nat.reduceEqDiff, T.get_put, ↓reduceIte, hshn, h2n] at k6)
    by_cases hlt : (k : Int) < ((l.map encI).length : Int)
    · have hlt' : k < l.length := by simp at hlt; omega
      obtain ⟨id, off, wr, e, cs, rfl, g1, g2, g3, g4⟩ := hqt.sl.at (i := k) (x := encI l[k]) (by simp [hlt'])
      have hb : (0 : Int) ≤ (k : Int) ∧ (k : Int) < ((l.map encI).length : Int) := ⟨by omega, hlt⟩
      have hw : IntKind.i64.wrap ((k : Int) + 1) = ((k + 1 : Nat) : Int) := by rw [IntWalk.i64_in _ (by omega)]; rfl
      simp only [encI] at g3
      obtain ⟨p1, p2⟩ := hin l[k] (List.getElem_mem hlt')
      obtain ⟨i, hi⟩ : ∃ i : Nat, l[k] = (i : Int) := ⟨l[k].toNat, by omega⟩
      rw [hi] at g3
      have hb2 : (0 : Int) ≤ (i : Int) ∧ (i : Int) < (n.toNat : Int) := by omega
      have his : i < seen.length := by omega
      obtain ⟨off3, cap3, cs3, hh3, w1, w2, w3⟩ := hst.set (i := i) (x := [.bool true]) (by simpa using his) rfl rfl
      simp only [Value.slice.injEq, Option.some.injEq, Addr.mk.injEq] at hh3; obtain ⟨⟨_, rfl, _⟩, _, _⟩ := hh3
      have w2' : 0 + (i * 1 + 1) ≤ cs3.length := by rw [← Nat.add_assoc]; exact w2
      have hl1 : ([Value.bool true] : List Value).length = 1 := rfl
      have hone : ([Value.bool true] : List Value).all Value.oneCell' = true := rfl
      have hlk : s1.nx ≤ s1.nx := Nat.le_refl _
      repeat (first
      | with_reducible first | apply ops_end | apply d_end | apply k_seq | apply k_seq_ret | apply k_seq_exit | apply k_block | apply k_block_ret | apply k_block_here | apply c_seq | apply c_block | apply c_region | apply c_skip | apply c_ret | apply c_exit | apply c_loop | apply k_loop_exit | apply k_loop_ret
      | (with_reducible apply k_block_on
         · decide)
      | ((first
          | (with_reducible apply ops_do
             · rfl)
          | (with_reducible apply d_same
             · rfl
             · rfl))
         · (simp only [Nat.reduceEqDiff, opA, val, opdA, opdO, T.get_put, ↓reduceIte, Nat.add_assoc, Nat.reduceAdd, Nat.left_eq_add, Nat.add_eq_left, Nat.add_left_cancel_iff, Nat.add_zero, plainN, omap, Option.map_some, Option.bind_some, Nat.le_add_right, Nat.le_refl, binA, intBinA, loadV, readA, storeV, writeA, fieldAddrA, indexAddrA, lenA, builtinA, newA, unA, packA, if_true, and_self, and_true, true_and, Value.cells, Int.toNat_natCast, decide_true, decide_false, cond_true, cond_false, h22, k21, k20, k6, hlt, un35, sz3, ty3, hb, g1, g3, un95, sz4, ty4, hb2, w1, w2', hl1, hone, hlk, hw]; rfl)
         · rfl
         try (· rfl))
      | ((first
          | (with_reducible apply d_do
             · rfl
             · rfl)
          | (with_reducible apply d_quiet
             · rfl
             · rfl
             · rfl))
         · (simp only [Nat.reduceEqDiff, opA, val, opdA, opdO, T.get_put, ↓reduceIte, Nat.add_assoc, Nat.reduceAdd, Nat.left_eq_add, Nat.add_eq_left, Nat.add_left_cancel_iff, Nat.add_zero, plainN, omap, Option.map_some, Option.bind_some, Nat.le_add_right, Nat.le_refl, binA, intBinA, loadV, readA, storeV, writeA, fieldAddrA, indexAddrA, lenA, builtinA, newA, unA, packA, if_true, and_self, and_true, true_and, Value.cells, Int.toNat_natCast, decide_true, decide_false, cond_true, cond_false, h22, k21, k20, k6, hlt, un35, sz3, ty3, hb, g1, g3, un95, sz4, ty4, hb2, w1, w2', hl1, hone, hlk, hw]; rfl)
         first
         | · rfl
         | (· (simp only [Nat.reduceEqDiff, loadBlk, opdA, T.get_put, ↓reduceIte, h22, k21, k20, k6, hlt, un35, sz3, ty3, hb, g1, g3, un95, sz4, ty4, hb2, w1, w2', hl1, hone, hlk, hw]; rfl)
            · rfl))
      | ((first
          | with_reducible apply ops_skipG
          | (with_reducible apply d_skip
             · rfl))
         · rfl
         · rfl
         · (simp only [Nat.reduceEqDiff, T.get_put, ↓reduceIte, h22, k21, k20, k6, hlt, un35, sz3, ty3, hb, g1, g3, un95, sz4, ty4, hb2, w1, w2', hl1, hone, hlk, hw]; rfl)
         · (simp only [decide_true, decide_false, h22, k21, k20, k6, hlt, un35, sz3, ty3, hb, g1, g3, un95, sz4, ty4, hb2, w1, w2', hl1, hone, hlk, hw, bt_tf, bt_ft, bt_tt, bt_ff]; done)
         · rfl)
      | ((first
          | with_reducible apply ops_doG
          | (with_reducible apply d_sameG
             · rfl))
         · rfl
         · rfl
         · (simp only [Nat.reduceEqDiff, T.get_put, ↓reduceIte, h22, k21, k20, k6, hlt, un35, sz3, ty3, hb, g1, g3, un95, sz4, ty4, hb2, w1, w2', hl1, hone, hlk, hw]; rfl)
         · (simp only [decide_true, decide_false, h22, k21, k20, k6, hlt, un35, sz3, ty3, hb, g1, g3, un95, sz4, ty4, hb2, w1, w2', hl1, hone, hlk, hw, bt_tf, bt_ft, bt_tt, bt_ff]; done)
         · (simp only [Nat.reduceEqDiff, opA, val, opdA, opdO, T.get_put, ↓reduceIte, Nat.add_assoc, Nat.reduceAdd, Nat.left_eq_add, Nat.add_eq_left, Nat.add_left_cancel_iff, Nat.add_zero, plainN, omap, Option.map_some, Option.bind_some, Nat.le_add_right, Nat.le_refl, binA, intBinA, loadV, readA, storeV, writeA, fieldAddrA, indexAddrA, lenA, builtinA, newA, unA, packA, if_true, and_self, and_true, true_and, Value.cells, Int.toNat_natCast, decide_true, decide_false, cond_true, cond_false, h22, k21, k20, k6, hlt, un35, sz3, ty3, hb, g1, g3, un95, sz4, ty4, hb2, w1, w2', hl1, hone, hlk, hw]; rfl)
         · rfl
         try (· rfl))
      | (with_reducible apply c_if
         · (simp only [Nat.reduceEqDiff, opdA, opdO, T.get_put, ↓reduceIte, Nat.add_assoc, Nat.reduceAdd, Nat.left_eq_add, Nat.add_eq_left, Nat.add_left_cancel_iff, Nat.add_zero, plainN, omap, Option.map_some, Option.bind_some, Nat.le_add_right, Nat.le_refl, decide_true, decide_false, h22, k21, k20, k6, hlt, un35, sz3, ty3, hb, g1, g3, un95, sz4, ty4, hb2, w1, w2', hl1, hone, hlk, hw]; rfl)
         with_reducible first | apply if_t | apply if_f))
      intro _ _
      have hsame : ∀ j o, j ≠ s1.nx → (T.put t.hp s1.nx o).get j = t.hp.get j := fun j o h => T.get_put_ne _ _ _ h
      refine k_loop_next (m' := m - 1) (by omega) ⟨k + 1, by omega, by simp only [Nat.reduceEqDiff, T.get_put, ↓reduceIte], hqt.same (Nat.le_refl _) fun id h => hsame _ _ (by have := hnq' id h; omega),
        seen.set i true, ?_, by rw [List.length_set]; exact hsl, fun x => ?_⟩
      · rw [List.map_set]
        exact w3 _ (Nat.le_refl _) (T.get_put_eq _ _ _)
      · rw [Mk.set his, hmk2, List.take_succ_eq_append_getElem hlt', List.mem_append, List.mem_singleton, hi]
    · repeat (first
      | with_reducible first | apply ops_end | apply d_end | apply k_seq | apply k_seq_ret | apply k_seq_exit | apply k_block | apply k_block_ret | apply k_block_here | apply c_seq | apply c_block | apply c_region | apply c_skip | apply c_ret | apply c_exit | apply c_loop | apply k_loop_exit | apply k_loop_ret
      | (with_reducible apply k_block_on
         · decide)
      | ((first
          | (with_reducible apply ops_do
             · rfl)
          | (with_reducible apply d_same
             · rfl
             · rfl))
         · (simp only [Nat.reduceEqDiff, opA, val, opdA, opdO, T.get_put, ↓reduceIte, Nat.add_assoc, Nat.reduceAdd, Nat.left_eq_add, Nat.add_eq_left, Nat.add_left_cancel_iff, Nat.add_zero, plainN, omap, Option.map_some, Option.bind_some, Nat.le_add_right, Nat.le_refl, binA, intBinA, loadV, readA, storeV, writeA, fieldAddrA, indexAddrA, lenA, builtinA, newA, unA, packA, if_true, and_self, and_true, true_and, Value.cells, Int.toNat_natCast, decide_true, decide_false, cond_true, cond_false, h22, k21, hlt]; rfl)
         · rfl
         try (· rfl))
      | ((first
          | (with_reducible apply d_do
             · rfl
             · rfl)
          | (with_reducible apply d_quiet
             · rfl
             · rfl
             · rfl))
         · (simp only [Nat.reduceEqDiff, opA, val, opdA, opdO, T.get_put, ↓reduceIte, Nat.add_assoc, Nat.reduceAdd, Nat.left_eq_add, Nat.add_eq_left, Nat.add_left_cancel_iff, Nat.add_zero, plainN, omap, Option.map_some, Option.bind_some, Nat.le_add_right, Nat.le_refl, binA, intBinA, loadV, readA, storeV, writeA, fieldAddrA, indexAddrA, lenA, builtinA, newA, unA, packA, if_true, and_self, and_true, true_and, Value.cells, Int.toNat_natCast, decide_true, decide_false, cond_true, cond_false, h22, k21, hlt]; rfl)
         first
         | · rfl
         | (· (simp only [Nat.reduceEqDiff, loadBlk, opdA, T.get_put, ↓reduceIte, h22, k21, hlt]; rfl)
            · rfl))
      | ((first
          | with_reducible apply ops_skipG
          | (with_reducible apply d_skip
             · rfl))
         · rfl
         · rfl
         · (simp only [Nat.reduceEqDiff, T.get_put, ↓reduceIte, h22, k21, hlt]; rfl)
         · (simp only [decide_true, decide_false, h22, k21, hlt, bt_tf, bt_ft, bt_tt, bt_ff]; done)
         · rfl)
      | ((first
          | with_reducible apply ops_doG
          | (with_reducible apply d_sameG
             · rfl))
         · rfl
         · rfl
         · (simp only [Nat.reduceEqDiff, T.get_put, ↓reduceIte, h22, k21, hlt]; rfl)
         · (simp only [decide_true, decide_false, h22, k21, hlt, bt_tf, bt_ft, bt_tt, bt_ff]; done)
         · (simp only [Nat.reduceEqDiff, opA, val, opdA, opdO, T.get_put, ↓reduceIte, Nat.add_assoc, Nat.reduceAdd, Nat.left_eq_add, Nat.add_eq_left, Nat.add_left_cancel_iff, Nat.add_zero, plainN, omap, Option.map_some, Option.bind_some, Nat.le_add_right, Nat.le_refl, binA, intBinA, loadV, readA, storeV, writeA, fieldAddrA, indexAddrA, lenA, builtinA, newA, unA, packA, if_true, and_self, and_true, true_and, Value.cells, Int.toNat_natCast, decide_true, decide_false, cond_true, cond_false, h22, k21, hlt]; rfl)
         · rfl
         try (· rfl))
      | (with_reducible apply c_if
         · (simp only [Nat.reduceEqDiff, opdA, opdO, T.get_put, ↓reduceIte, Nat.add_assoc, Nat.reduceAdd, Nat.left_eq_add, Nat.add_eq_left, Nat.add_left_cancel_iff, Nat.add_zero, plainN, omap, Option.map_some, Option.bind_some, Nat.le_add_right, Nat.le_refl, decide_true, decide_false, h22, k21, hlt]; rfl)
         with_reducible first | apply if_t | apply if_f))
      intro _ _
      have hke : l.take k = l := List.take_of_length_le (by simp at hlt; omega)
      rw [hke] at hmk2
      have hbfs : Bfs n es l l seen fun _ => False := ⟨hsl, fun x hx => ⟨(hin x hx).1, (hin x hx).2, (hmk2 x).2 hx⟩, fun x hx => (hmk2 x).2 hx, fun x hx => ⟨x, (hmk2 x).1 hx, .refl x⟩, fun x hx => Or.inl ((hmk2 x).1 hx)⟩
      repeat (first
      | with_reducible first | apply ops_end | apply d_end | apply k_seq | apply k_seq_ret | apply k_seq_exit | apply k_block | apply k_block_ret | apply k_block_here | apply c_seq | apply c_block | apply c_region | apply c_skip | apply c_ret | apply c_exit | apply c_loop | apply k_loop_exit | apply k_loop_ret
      | (with_reducible apply k_block_on
         · decide)
      | ((first
          | (with_reducible apply ops_do
             · rfl)
          | (with_reducible apply d_same
             · rfl
             · rfl))
         · (simp only [Nat.reduceEqDiff, opA, val, opdA, opdO, T.get_put, ↓reduceIte, Nat.add_assoc, Nat.reduceAdd, Nat.left_eq_add, Nat.add_eq_left, Nat.add_left_cancel_iff, Nat.add_zero, plainN, omap, Option.map_some, Option.bind_some, Nat.le_add_right, Nat.le_refl, binA, intBinA, loadV, readA, storeV, writeA, fieldAddrA, indexAddrA, lenA, builtinA, newA, unA, packA, if_true, and_self, and_true, true_and, Value.cells, Int.toNat_natCast, decide_true, decide_false, cond_true, cond_false]; rfl)
         · rfl
         try (· rfl))
      | ((first
          | (with_reducible apply d_do
             · rfl
             · rfl)
          | (with_reducible apply d_quiet
             · rfl
             · rfl
             · rfl))
         · (simp only [Nat.reduceEqDiff, opA, val, opdA, opdO, T.get_put, ↓reduceIte, Nat.add_assoc, Nat.reduceAdd, Nat.left_eq_add, Nat.add_eq_left, Nat.add_left_cancel_iff, Nat.add_zero, plainN, omap, Option.map_some, Option.bind_some, Nat.le_add_right, Nat.le_refl, binA, intBinA, loadV, readA, storeV, writeA, fieldAddrA, indexAddrA, lenA, builtinA, newA, unA, packA, if_true, and_self, and_true, true_and, Value.cells, Int.toNat_natCast, decide_true, decide_false, cond_true, cond_false]; rfl)
         first
         | · rfl
         | (· (simp only [Nat.reduceEqDiff, loadBlk, opdA, T.get_put, ↓reduceIte]; rfl)
            · rfl))
      | ((first
          | with_reducible apply ops_skipG
          | (with_reducible apply d_skip
             · rfl))
         · rfl
         · rfl
         · (simp only [Nat.reduceEqDiff, T.get_put, ↓reduceIte]; rfl)
         · (simp only [decide_true, decide_false, bt_tf, bt_ft, bt_tt, bt_ff]; done)
         · rfl)
      | ((first
          | with_reducible apply ops_doG
          | (with_reducible apply d_sameG
             · rfl))
         · rfl
         · rfl
         · (simp only [Nat.reduceEqDiff, T.get_put, ↓reduceIte]; rfl)
         · (simp only [decide_true, decide_false, bt_tf, bt_ft, bt_tt, bt_ff]; done)
         · (simp only [Nat.reduceEqDiff, opA, val, opdA, opdO, T.get_put, ↓reduceIte, Nat.add_assoc, Nat.reduceAdd, Nat.left_eq_add, Nat.add_eq_left, Nat.add_left_cancel_iff, Nat.add_zero, plainN, omap, Option.map_some, Option.bind_some, Nat.le_add_right, Nat.le_refl, binA, intBinA, loadV, readA, storeV, writeA, fieldAddrA, indexAddrA, lenA, builtinA, newA, unA, packA, if_true, and_self, and_true, true_and, Value.cells, Int.toNat_natCast, decide_true, decide_false, cond_true, cond_false]; rfl)
         · rfl
         try (· rfl))
      | (with_reducible apply c_if
         · (simp only [Nat.reduceEqDiff, opdA, opdO, T.get_put, ↓reduceIte, Nat.add_assoc, Nat.reduceAdd, Nat.left_eq_add, Nat.add_eq_left, Nat.add_left_cancel_iff, Nat.add_zero, plainN, omap, Option.map_some, Option.bind_some, Nat.le_add_right, Nat.le_refl, decide_true, decide_false]; rfl)
         with_reducible first | apply if_t | apply if_f))
      have hA1t : Ab s1.nx s1 t := hA14.trans hA
      clear hmk2 hke hlt h22 hk
      refine loop_k (lk' := s1.nx) (s0 := t) (fun m f u => ∃ (q : List Int) (seen : List Bool) (oq : Option Nat) (qv : Value), m = 2 * seen.count false + q.length ∧ m ≤ 1000200 ∧ f.get 7 = some qv ∧ Own u 3 1 oq qv (q.map encI) ∧ (∀ id, oq = some id → s1.nx < id) ∧
        Own u 4 1 (some s1.nx) (.slice (some ⟨s1.nx, 0, none⟩) n.toNat n.toNat) (seen.map encB) ∧ Bfs n es l q seen fun _ => False) (2 * seen.count false + l.length) (by omega) hA1t.nx ?_ (Ab.refl _ _) ?_
      · have k7 := hF 7 (by rfl)
        simp only [Nat.reduceEqDiff, T.get_put, ↓reduceIte] at k7
        exact ⟨l, seen, oq, _, rfl, by have := List.count_le_length (a := false) (l := seen); have := hg.hi; omega, by simp only [Nat.reduceEqDiff, T.get_put, ↓reduceIte, k7], hqt, hnq', hst, hbfs⟩
      · have k5 := hF 5 (by rfl)
        simp only [Nat.reduceEqDiff, T.get_put, ↓reduceIte] at k5
        have b5 := k5
        have b6 := k6
        clear hbfs hst hqt hoq hnq hnq' hos hseen4 hseen3 hA hF k20 k21 k5 k6 hsl
        rintro m f u ⟨q, seen, oq, qv, hm, hmb, h7, hq, hnq, hst, hbf⟩ hA hF
        (have k5 := hF 5 (by rfl); simp only [Nat.reduceEqDiff, T.get_put, ↓reduceIte, b5, b6] at k5; have k6 := hF 6 (by rfl); simp only [Nat.reduceEqDiff, T.get_put, ↓reduceIte, b5, b6] at k6)
        have hA1u : Ab s1.nx s1 u := hA1t.trans hA
        cases q with
        | nil =>
          obtain ⟨qb, qc, rfl⟩ := hq.shape
          have h0 : ¬ (((([] : List Int).map encI).length : Nat) : Int) > 0 := by simp
          repeat (first
      | with_reducible first | apply ops_end | apply d_end | apply k_seq | apply k_seq_ret | apply k_seq_exit | apply k_block | apply k_block_ret | apply k_block_here | apply c_seq | apply c_block | apply c_region | apply c_skip | apply c_ret | apply c_exit | apply c_loop | apply k_loop_exit | apply k_loop_ret
      | (with_reducible apply k_block_on
         · decide)
      | ((first
          | (with_reducible apply ops_do
             · rfl)
          | (with_reducible apply d_same
             · rfl
             · rfl))
         · (simp only [Nat.reduceEqDiff, opA, val, opdA, opdO, T.get_put, ↓reduceIte, Nat.add_assoc, Nat.reduceAdd, Nat.left_eq_add, Nat.add_eq_left, Nat.add_left_cancel_iff, Nat.add_zero, plainN, omap, Option.map_some, Option.bind_some, Nat.le_add_right, Nat.le_refl, binA, intBinA, loadV, readA, storeV, writeA, fieldAddrA, indexAddrA, lenA, builtinA, newA, unA, packA, if_true, and_self, and_true, true_and, Value.cells, Int.toNat_natCast, decide_true, decide_false, cond_true, cond_false, h7, un35, h0]; rfl)
         · rfl
         try (· rfl))
      | ((first
          | (with_reducible apply d_do
             · rfl
             · rfl)
          | (with_reducible apply d_quiet
             · rfl
             · rfl
             · rfl))
         · (simp only [Nat.reduceEqDiff, opA, val, opdA, opdO, T.get_put, ↓reduceIte, Nat.add_assoc, Nat.reduceAdd, Nat.left_eq_add, Nat.add_eq_left, Nat.add_left_cancel_iff, Nat.add_zero, plainN, omap, Option.map_some, Option.bind_some, Nat.le_add_right, Nat.le_refl, binA, intBinA, loadV, readA, storeV, writeA, fieldAddrA, indexAddrA, lenA, builtinA, newA, unA, packA, if_true, and_self, and_true, true_and, Value.cells, Int.toNat_natCast, decide_true, decide_false, cond_true, cond_false, h7, un35, h0]; rfl)
         first
         | · rfl
         | (· (simp only [Nat.reduceEqDiff, loadBlk, opdA, T.get_put, ↓reduceIte, h7, un35, h0]; rfl)
            · rfl))
      | ((first
          | with_reducible apply ops_skipG
          | (with_reducible apply d_skip
             · rfl))
         · rfl
         · rfl
         · (simp only [Nat.reduceEqDiff, T.get_put, ↓reduceIte, h7, un35, h0]; rfl)
         · (simp only [decide_true, decide_false, h7, un35, h0, bt_tf, bt_ft, bt_tt, bt_ff]; done)
         · rfl)
      | ((first
          | with_reducible apply ops_doG
          | (with_reducible apply d_sameG
             · rfl))
         · rfl
         · rfl
         · (simp only [Nat.reduceEqDiff, T.get_put, ↓reduceIte, h7, un35, h0]; rfl)
         · (simp only [decide_true, decide_false, h7, un35, h0, bt_tf, bt_ft, bt_tt, bt_ff]; done)
         · (simp only [Nat.reduceEqDiff, opA, val, opdA, opdO, T.get_put, ↓reduceIte, Nat.add_assoc, Nat.reduceAdd, Nat.left_eq_add, Nat.add_eq_left, Nat.add_left_cancel_iff, Nat.add_zero, plainN, omap, Option.map_some, Option.bind_some, Nat.le_add_right, Nat.le_refl, binA, intBinA, loadV, readA, storeV, writeA, fieldAddrA, indexAddrA, lenA, builtinA, newA, unA, packA, if_true, and_self, and_true, true_and, Value.cells, Int.toNat_natCast, decide_true, decide_false, cond_true, cond_false, h7, un35, h0]; rfl)
         · rfl
         try (· rfl))
      | (with_reducible apply c_if
         · (simp only [Nat.reduceEqDiff, opdA, opdO, T.get_put, ↓reduceIte, Nat.add_assoc, Nat.reduceAdd, Nat.left_eq_add, Nat.add_eq_left, Nat.add_left_cancel_iff, Nat.add_zero, plainN, omap, Option.map_some, Option.bind_some, Nat.le_add_right, Nat.le_refl, decide_true, decide_false, h7, un35, h0]; rfl)
         with_reducible first | apply if_t | apply if_f))
          intro _ _
          repeat (first
      | with_reducible first | apply ops_end | apply d_end | apply k_seq | apply k_seq_ret | apply k_seq_exit | apply k_block | apply k_block_ret | apply k_block_here | apply c_seq | apply c_block | apply c_region | apply c_skip | apply c_ret | apply c_exit | apply c_loop | apply k_loop_exit | apply k_loop_ret
      | (with_reducible apply k_block_on
         · decide)
      | ((first
          | (with_reducible apply ops_do
             · rfl)
          | (with_reducible apply d_same
             · rfl
             · rfl))
         · (simp only [Nat.reduceEqDiff, opA, val, opdA, opdO, T.get_put, ↓reduceIte, Nat.add_assoc, Nat.reduceAdd, Nat.left_eq_add, Nat.add_eq_left, Nat.add_left_cancel_iff, Nat.add_zero, plainN, omap, Option.map_some, Option.bind_some, Nat.le_add_right, Nat.le_refl, binA, intBinA, loadV, readA, storeV, writeA, fieldAddrA, indexAddrA, lenA, builtinA, newA, unA, packA, if_true, and_self, and_true, true_and, Value.cells, Int.toNat_natCast, decide_true, decide_false, cond_true, cond_false, k6]; rfl)
         · rfl
         try (· rfl))
      | ((first
          | (with_reducible apply d_do
             · rfl
             · rfl)
          | (with_reducible apply d_quiet
             · rfl
             · rfl
             · rfl))
         · (simp only [Nat.reduceEqDiff, opA, val, opdA, opdO, T.get_put, ↓reduceIte, Nat.add_assoc, Nat.reduceAdd, Nat.left_eq_add, Nat.add_eq_left, Nat.add_left_cancel_iff, Nat.add_zero, plainN, omap, Option.map_some, Option.bind_some, Nat.le_add_right, Nat.le_refl, binA, intBinA, loadV, readA, storeV, writeA, fieldAddrA, indexAddrA, lenA, builtinA, newA, unA, packA, if_true, and_self, and_true, true_and, Value.cells, Int.toNat_natCast, decide_true, decide_false, cond_true, cond_false, k6]; rfl)
         first
         | · rfl
         | (· (simp only [Nat.reduceEqDiff, loadBlk, opdA, T.get_put, ↓reduceIte, k6]; rfl)
            · rfl))
      | ((first
          | with_reducible apply ops_skipG
          | (with_reducible apply d_skip
             · rfl))
         · rfl
         · rfl
         · (simp only [Nat.reduceEqDiff, T.get_put, ↓reduceIte, k6]; rfl)
         · (simp only [decide_true, decide_false, k6, bt_tf, bt_ft, bt_tt, bt_ff]; done)
         · rfl)
      | ((first
          | with_reducible apply ops_doG
          | (with_reducible apply d_sameG
             · rfl))
         · rfl
         · rfl
         · (simp only [Nat.reduceEqDiff, T.get_put, ↓reduceIte, k6]; rfl)
         · (simp only [decide_true, decide_false, k6, bt_tf, bt_ft, bt_tt, bt_ff]; done)
         · (simp only [Nat.reduceEqDiff, opA, val, opdA, opdO, T.get_put, ↓reduceIte, Nat.add_assoc, Nat.reduceAdd, Nat.left_eq_add, Nat.add_eq_left, Nat.add_left_cancel_iff, Nat.add_zero, plainN, omap, Option.map_some, Option.bind_some, Nat.le_add_right, Nat.le_refl, binA, intBinA, loadV, readA, storeV, writeA, fieldAddrA, indexAddrA, lenA, builtinA, newA, unA, packA, if_true, and_self, and_true, true_and, Value.cells, Int.toNat_natCast, decide_true, decide_false, cond_true, cond_false, k6]; rfl)
         · rfl
         try (· rfl))
      | (with_reducible apply c_if
         · (simp only [Nat.reduceEqDiff, opdA, opdO, T.get_put, ↓reduceIte, Nat.add_assoc, Nat.reduceAdd, Nat.left_eq_add, Nat.add_eq_left, Nat.add_left_cancel_iff, Nat.add_zero, plainN, omap, Option.map_some, Option.bind_some, Nat.le_add_right, Nat.le_refl, decide_true, decide_false, k6]; rfl)
         with_reducible first | apply if_t | apply if_f))
          intro _
          (first
      | (with_reducible apply ret_i
         · (simp only [Nat.reduceEqDiff, omap, resA, opdA, opdO, T.get_put, ↓reduceIte, Nat.add_assoc, Nat.reduceAdd, Nat.left_eq_add, Nat.add_eq_left, Nat.add_left_cancel_iff, Nat.add_zero, plainN, omap, Option.map_some, Option.bind_some, Nat.le_add_right, Nat.le_refl, loadV, readA, packA]; rfl))
      | (with_reducible apply ret_n
         · (simp only [Nat.reduceEqDiff, omap, resA, opdA, opdO, T.get_put, ↓reduceIte, Nat.add_assoc, Nat.reduceAdd, Nat.left_eq_add, Nat.add_eq_left, Nat.add_left_cancel_iff, Nat.add_zero, plainN, omap, Option.map_some, Option.bind_some, Nat.le_add_right, Nat.le_refl, loadV, readA, packA]; rfl)))
          exact ⟨s1.nx, seen, by omega, hst, hbf.len, fun x => hbf.all x⟩
        | cons k q =>
          cases oq with
          | none => obtain ⟨h1, _⟩ := hq; simp at h1
          | some oid =>
            obtain ⟨hk0, hkn, hkm⟩ := hbf.que k List.mem_cons_self
            obtain ⟨v', hsl, hq'⟩ := Own.tail un35 sz3 hq
            obtain ⟨qb, qc, rfl⟩ := hq.shape
            obtain ⟨id, off, wr, e, cs, rfl, g1, g2, g3, g4⟩ := hq.sl.at (i := 0) (x := encI k) (by simp)
            rw [Nat.zero_mul, Nat.add_zero] at g3
            obtain ⟨kn, hkk⟩ : ∃ kn : Nat, k = (kn : Int) := ⟨k.toNat, by omega⟩
            subst hkk
            simp only [encI] at g3
            have h0 : ((((((kn : Int) :: q) : List Int).map encI).length : Nat) : Int) > 0 := by simp
            have hb0 : (0 : Int) ≤ 0 ∧ (0 : Int) < ((((((kn : Int) :: q) : List Int).map encI).length : Nat) : Int) := ⟨Int.le_refl _, h0⟩
            have hkr : kn < rs.length := by omega
            have hrk : rs[kn]? = some rs[kn] := List.getElem?_eq_getElem hkr
            have hobu := hob.keep hA1u
            obtain ⟨vb, vc, rfl⟩ := hob.shape
            obtain ⟨oid2, off2, wr2, e2, cs2, rfl, o1, o2, o3, o4⟩ := hobu.sl.at (i := kn) (x := [rs[kn].v]) (by simp [hkr])
            have hbk : (0 : Int) ≤ (kn : Int) ∧ (kn : Int) < (((rs.map fun r => [r.v]).length : Nat) : Int) := by simp; omega
            have hrow := (hrows.1 rs[kn] (List.getElem_mem hkr)).1.sl
            rw [hxs kn rs[kn] hrk] at hrow
            obtain ⟨rb, rc, hrv⟩ := hrow.shape
            rw [hrv] at o3 hrow
            repeat (first
      | with_reducible first | apply ops_end | apply d_end | apply k_seq | apply k_seq_ret | apply k_seq_exit | apply k_block | apply k_block_ret | apply k_block_here | apply c_seq | apply c_block | apply c_region | apply c_skip | apply c_ret | apply c_exit | apply c_loop | apply k_loop_exit | apply k_loop_ret
      | (with_reducible apply k_block_on
         · decide)
      | ((first
          | (with_reducible apply ops_do
             · rfl)
          | (with_reducible apply d_same
             · rfl
             · rfl))
         · (simp only [Nat.reduceEqDiff, opA, val, opdA, opdO, T.get_put, ↓reduceIte, Nat.add_assoc, Nat.reduceAdd, Nat.left_eq_add, Nat.add_eq_left, Nat.add_left_cancel_iff, Nat.add_zero, plainN, omap, Option.map_some, Option.bind_some, Nat.le_add_right, Nat.le_refl, binA, intBinA, loadV, readA, storeV, writeA, fieldAddrA, indexAddrA, lenA, builtinA, newA, unA, packA, if_true, and_self, and_true, true_and, Value.cells, Int.toNat_natCast, decide_true, decide_false, cond_true, cond_false, h7, un35, h0, hb0, sz35, sz3, ty3, g1, g3, hsl, Int.toNat_zero, Nat.zero_mul, k5, un30, hbk, o1, o3, ty35]; rfl)
         · rfl
         try (· rfl))
      | ((first
          | (with_reducible apply d_do
             · rfl
             · rfl)
          | (with_reducible apply d_quiet
             · rfl
             · rfl
             · rfl))
         · (simp only [Nat.reduceEqDiff, opA, val, opdA, opdO, T.get_put, ↓reduceIte, Nat.add_assoc, Nat.reduceAdd, Nat.left_eq_add, Nat.add_eq_left, Nat.add_left_cancel_iff, Nat.add_zero, plainN, omap, Option.map_some, Option.bind_some, Nat.le_add_right, Nat.le_refl, binA, intBinA, loadV, readA, storeV, writeA, fieldAddrA, indexAddrA, lenA, builtinA, newA, unA, packA, if_true, and_self, and_true, true_and, Value.cells, Int.toNat_natCast, decide_true, decide_false, cond_true, cond_false, h7, un35, h0, hb0, sz35, sz3, ty3, g1, g3, hsl, Int.toNat_zero, Nat.zero_mul, k5, un30, hbk, o1, o3, ty35]; rfl)
         first
         | · rfl
         | (· (simp only [Nat.reduceEqDiff, loadBlk, opdA, T.get_put, ↓reduceIte, h7, un35, h0, hb0, sz35, sz3, ty3, g1, g3, hsl, Int.toNat_zero, Nat.zero_mul, k5, un30, hbk, o1, o3, ty35]; rfl)
            · rfl))
      | ((first
          | with_reducible apply ops_skipG
          | (with_reducible apply d_skip
             · rfl))
         · rfl
         · rfl
         · (simp only [Nat.reduceEqDiff, T.get_put, ↓reduceIte, h7, un35, h0, hb0, sz35, sz3, ty3, g1, g3, hsl, Int.toNat_zero, Nat.zero_mul, k5, un30, hbk, o1, o3, ty35]; rfl)
         · (simp only [decide_true, decide_false, h7, un35, h0, hb0, sz35, sz3, ty3, g1, g3, hsl, Int.toNat_zero, Nat.zero_mul, k5, un30, hbk, o1, o3, ty35, bt_tf, bt_ft, bt_tt, bt_ff]; done)
         · rfl)
      | ((first
          | with_reducible apply ops_doG
          | (with_reducible apply d_sameG
             · rfl))
         · rfl
         · rfl
         · (simp only [Nat.reduceEqDiff, T.get_put, ↓reduceIte, h7, un35, h0, hb0, sz35, sz3, ty3, g1, g3, hsl, Int.toNat_zero, Nat.zero_mul, k5, un30, hbk, o1, o3, ty35]; rfl)
         · (simp only [decide_true, decide_false, h7, un35, h0, hb0, sz35, sz3, ty3, g1, g3, hsl, Int.toNat_zero, Nat.zero_mul, k5, un30, hbk, o1, o3, ty35, bt_tf, bt_ft, bt_tt, bt_ff]; done)
         · (simp only [Nat.reduceEqDiff, opA, val, opdA, opdO, T.get_put, ↓reduceIte, Nat.add_assoc, Nat.reduceAdd, Nat.left_eq_add, Nat.add_eq_left, Nat.add_left_cancel_iff, Nat.add_zero, plainN, omap, Option.map_some, Option.bind_some, Nat.le_add_right, Nat.le_refl, binA, intBinA, loadV, readA, storeV, writeA, fieldAddrA, indexAddrA, lenA, builtinA, newA, unA, packA, if_true, and_self, and_true, true_and, Value.cells, Int.toNat_natCast, decide_true, decide_false, cond_true, cond_false, h7, un35, h0, hb0, sz35, sz3, ty3, g1, g3, hsl, Int.toNat_zero, Nat.zero_mul, k5, un30, hbk, o1, o3, ty35]; rfl)
         · rfl
         try (· rfl))
      | (with_reducible apply c_if
         · (simp only [Nat.reduceEqDiff, opdA, opdO, T.get_put, ↓reduceIte, Nat.add_assoc, Nat.reduceAdd, Nat.left_eq_add, Nat.add_eq_left, Nat.add_left_cancel_iff, Nat.add_zero, plainN, omap, Option.map_some, Option.bind_some, Nat.le_add_right, Nat.le_refl, decide_true, decide_false, h7, un35, h0, hb0, sz35, sz3, ty3, g1, g3, hsl, Int.toNat_zero, Nat.zero_mul, k5, un30, hbk, o1, o3, ty35]; rfl)
         with_reducible first | apply if_t | apply if_f))
            have c6 := k6
            have hm1 : 2 * seen.count false + q.length < m := by rw [hm, List.length_cons]; omega
            have hbp := hbf.pop
            refine loop_k (lk' := s1.nx) (s0 := u) (fun m2 f u => ∃ j : Nat, j + m2 = (succL es kn).length ∧ f.get 43 = some (.int .i64 j) ∧
              ∃ (q : List Int) (seen : List Bool) (oq : Option Nat) (qv : Value), 2 * seen.count false + q.length < m ∧ f.get 7 = some qv ∧ Own u 3 1 oq qv (q.map encI) ∧ (∀ id, oq = some id → s1.nx < id) ∧
              Own u 4 1 (some s1.nx) (.slice (some ⟨s1.nx, 0, none⟩) n.toNat n.toNat) (seen.map encB) ∧ Bfs n es l q seen (fun x => x = (kn : Int)) ∧ Mk seen kn ∧ ∀ y ∈ (succL es kn).take j, Mk seen y)
              (succL es kn).length (Nat.le_refl _) hA1u.nx ?_ (Ab.refl _ _) ?_
            · exact ⟨0, by omega, by simp only [Nat.reduceEqDiff, T.get_put, ↓reduceIte]; rfl, q, seen, some oid, v', hm1, by simp only [Nat.reduceEqDiff, T.get_put, ↓reduceIte], hq', hnq, hst, hbp, hkm, fun y hy => by simp at hy⟩
            · clear hbf hst hq hnq hq' hsl hm1 hbp hkm g1 g2 g3 g4 hb0 h0 o1 o2 o3 h7 k6 k5 hobu hm
              rintro m2 f2 w ⟨j, hj, h43, q, seen, oq, qv, hm, h7, hq, hnq, hst, hbf, hkm, hdone⟩ hA2 hF
              (have k41 := hF 41 (by rfl); simp only [Nat.reduceEqDiff, T.get_put, ↓reduceIte, c6] at k41; have k42 := hF 42 (by rfl); simp only [Nat.reduceEqDiff, T.get_put, ↓reduceIte, c6] at k42; have k6 := hF 6 (by rfl); simp only [Nat.reduceEqDiff, T.get_put, ↓reduceIte, c6] at k6)
              clear hF
              by_cases hlt : (j : Int) < (((succL es kn).map encI).length : Int)
              · have hlt' : j < (succL es kn).length := by simp at hlt; omega
                have hrw := hrow.keep (hA1u.trans hA2)
                obtain ⟨id, off, wr, e, cs, rfl, g1, g2, g3, g4⟩ := hrw.at (i := j) (x := encI (succL es kn)[j]) (by simp [hlt'])
                have hb : (0 : Int) ≤ (j : Int) ∧ (j : Int) < (((succL es kn).map encI).length : Int) := ⟨by omega, hlt⟩
                have hjl : (succL es kn).length ≤ es.length := by unfold succL; rw [List.length_map]; exact List.length_filter_le _ _
                have hjw := hg.len
                have hw : IntKind.i64.wrap ((j : Int) + 1) = ((j + 1 : Nat) : Int) := by rw [IntWalk.i64_in _ (by omega)]; rfl
                simp only [encI] at g3
                have hedge : ((kn : Int), (succL es kn)[j]) ∈ es := mem_succL.1 (List.getElem_mem hlt')
                obtain ⟨_, _, p1, p2⟩ := hg.ins _ hedge
                dsimp only at p1 p2
                obtain ⟨i, hi⟩ : ∃ i : Nat, (succL es kn)[j] = (i : Int) := ⟨(succL es kn)[j].toNat, by omega⟩
                rw [hi] at g3 hedge
                have hsl := hbf.len
                have his : i < seen.length := by omega
                have hb2 : (0 : Int) ≤ (i : Int) ∧ (i : Int) < (n.toNat : Int) := by omega
                obtain ⟨_, _, wr2, e2, cs3, hh, o1, o2, o3, _⟩ := hst.sl.at (i := i) (x := encB seen[i]) (by simp [his])
                simp only [Option.some.injEq, Addr.mk.injEq] at hh; obtain ⟨rfl, rfl, _⟩ := hh
                simp only [encB] at o3
                have htake : ∀ {sn : List Bool}, (∀ y ∈ (succL es kn).take j, Mk sn y) → Mk sn i → ∀ y ∈ (succL es kn).take (j + 1), Mk sn y := fun h1 h2 y hy => by
                  rw [List.take_succ_eq_append_getElem hlt', List.mem_append, List.mem_singleton] at hy
                  rcases hy with hy | hy
                  · exact h1 y hy
                  · rw [hy, hi]; exact h2
                by_cases hsi : seen[i] = true
                · repeat (first
      | with_reducible first | apply ops_end | apply d_end | apply k_seq | apply k_seq_ret | apply k_seq_exit | apply k_block | apply k_block_ret | apply k_block_here | apply c_seq | apply c_block | apply c_region | apply c_skip | apply c_ret | apply c_exit | apply c_loop | apply k_loop_exit | apply k_loop_ret
      | (with_reducible apply k_block_on
         · decide)
      | ((first
          | (with_reducible apply ops_do
             · rfl)
          | (with_reducible apply d_same
             · rfl
             · rfl))
         · (simp only [Nat.reduceEqDiff, opA, val, opdA, opdO, T.get_put, ↓reduceIte, Nat.add_assoc, Nat.reduceAdd, Nat.left_eq_add, Nat.add_eq_left, Nat.add_left_cancel_iff, Nat.add_zero, plainN, omap, Option.map_some, Option.bind_some, Nat.le_add_right, Nat.le_refl, binA, intBinA, loadV, readA, storeV, writeA, fieldAddrA, indexAddrA, lenA, builtinA, newA, unA, packA, if_true, and_self, and_true, true_and, Value.cells, Int.toNat_natCast, decide_true, decide_false, cond_true, cond_false, h43, k42, k41, k6, hlt, un35, sz3, ty3, hb, g1, g3, un95, sz4, ty4, hb2, o1, o3, hsi, Bool.not_true, hw]; rfl)
         · rfl
         try (· rfl))
      | ((first
          | (with_reducible apply d_do
             · rfl
             · rfl)
          | (with_reducible apply d_quiet
             · rfl
             · rfl
             · rfl))
         · (simp only [Nat.reduceEqDiff, opA, val, opdA, opdO, T.get_put, ↓reduceIte, Nat.add_assoc, Nat.reduceAdd, Nat.left_eq_add, Nat.add_eq_left, Nat.add_left_cancel_iff, Nat.add_zero, plainN, omap, Option.map_some, Option.bind_some, Nat.le_add_right, Nat.le_refl, binA, intBinA, loadV, readA, storeV, writeA, fieldAddrA, indexAddrA, lenA, builtinA, newA, unA, packA, if_true, and_self, and_true, true_and, Value.cells, Int.toNat_natCast, decide_true, decide_false, cond_true, cond_false, h43, k42, k41, k6, hlt, un35, sz3, ty3, hb, g1, g3, un95, sz4, ty4, hb2, o1, o3, hsi, Bool.not_true, hw]; rfl)
         first
         | · rfl
         | (· (simp only [Nat.reduceEqDiff, loadBlk, opdA, T.get_put, ↓reduceIte, h43, k42, k41, k6, hlt, un35, sz3, ty3, hb, g1, g3, un95, sz4, ty4, hb2, o1, o3, hsi, Bool.not_true, hw]; rfl)
            · rfl))
      | ((first
          | with_reducible apply ops_skipG
          | (with_reducible apply d_skip
             · rfl))
         · rfl
         · rfl
         · (simp only [Nat.reduceEqDiff, T.get_put, ↓reduceIte, h43, k42, k41, k6, hlt, un35, sz3, ty3, hb, g1, g3, un95, sz4, ty4, hb2, o1, o3, hsi, Bool.not_true, hw]; rfl)
         · (simp only [decide_true, decide_false, h43, k42, k41, k6, hlt, un35, sz3, ty3, hb, g1, g3, un95, sz4, ty4, hb2, o1, o3, hsi, Bool.not_true, hw, bt_tf, bt_ft, bt_tt, bt_ff]; done)
         · rfl)
      | ((first
          | with_reducible apply ops_doG
          | (with_reducible apply d_sameG
             · rfl))
         · rfl
         · rfl
         · (simp only [Nat.reduceEqDiff, T.get_put, ↓reduceIte, h43, k42, k41, k6, hlt, un35, sz3, ty3, hb, g1, g3, un95, sz4, ty4, hb2, o1, o3, hsi, Bool.not_true, hw]; rfl)
         · (simp only [decide_true, decide_false, h43, k42, k41, k6, hlt, un35, sz3, ty3, hb, g1, g3, un95, sz4, ty4, hb2, o1, o3, hsi, Bool.not_true, hw, bt_tf, bt_ft, bt_tt, bt_ff]; done)
         · (simp only [Nat.reduceEqDiff, opA, val, opdA, opdO, T.get_put, ↓reduceIte, Nat.add_assoc, Nat.reduceAdd, Nat.left_eq_add, Nat.add_eq_left, Nat.add_left_cancel_iff, Nat.add_zero, plainN, omap, Option.map_some, Option.bind_some, Nat.le_add_right, Nat.le_refl, binA, intBinA, loadV, readA, storeV, writeA, fieldAddrA, indexAddrA, lenA, builtinA, newA, unA, packA, if_true, and_self, and_true, true_and, Value.cells, Int.toNat_natCast, decide_true, decide_false, cond_true, cond_false, h43, k42, k41, k6, hlt, un35, sz3, ty3, hb, g1, g3, un95, sz4, ty4, hb2, o1, o3, hsi, Bool.not_true, hw]; rfl)
         · rfl
         try (· rfl))
      | (with_reducible apply c_if
         · (simp only [Nat.reduceEqDiff, opdA, opdO, T.get_put, ↓reduceIte, Nat.add_assoc, Nat.reduceAdd, Nat.left_eq_add, Nat.add_eq_left, Nat.add_left_cancel_iff, Nat.add_zero, plainN, omap, Option.map_some, Option.bind_some, Nat.le_add_right, Nat.le_refl, decide_true, decide_false, h43, k42, k41, k6, hlt, un35, sz3, ty3, hb, g1, g3, un95, sz4, ty4, hb2, o1, o3, hsi, Bool.not_true, hw]; rfl)
         with_reducible first | apply if_t | apply if_f))
                  intro _ _
                  refine k_loop_next (m' := m2 - 1) (by omega) ⟨j + 1, by omega, by simp only [Nat.reduceEqDiff, T.get_put, ↓reduceIte], q, seen, oq, qv, hm, by simp only [Nat.reduceEqDiff, T.get_put, ↓reduceIte, h7], hq, hnq, hst, hbf, hkm, htake hdone ?_⟩
                  exact ⟨by omega, by rw [Int.toNat_natCast, List.getElem?_eq_getElem his, hsi]⟩
                · simp only [Bool.not_eq_true] at hsi
                  obtain ⟨off3, cap3, cs4, hh3, w1, w2, w3⟩ := hst.set (i := i) (x := [.bool true]) (by simpa using his) rfl rfl
                  simp only [Value.slice.injEq, Option.some.injEq, Addr.mk.injEq] at hh3; obtain ⟨⟨_, rfl, _⟩, _, _⟩ := hh3
                  rw [o1] at w1; cases w1
                  have w2' : 0 + (i * 1 + 1) ≤ cs3.length := by rw [← Nat.add_assoc]; exact w2
                  have hl1 : ([Value.bool true] : List Value).length = 1 := rfl
                  have hone : ([Value.bool true] : List Value).all Value.oneCell' = true := rfl
                  have hlk : s1.nx ≤ s1.nx := Nat.le_refl _
                  repeat (first
      | with_reducible first | apply ops_end | apply d_end | apply k_seq | apply k_seq_ret | apply k_seq_exit | apply k_block | apply k_block_ret | apply k_block_here | apply c_seq | apply c_block | apply c_region | apply c_skip | apply c_ret | apply c_exit | apply c_loop | apply k_loop_exit | apply k_loop_ret
      | (with_reducible apply k_block_on
         · decide)
      | ((first
          | (with_reducible apply ops_do
             · rfl)
          | (with_reducible apply d_same
             · rfl
             · rfl))
         · (simp only [Nat.reduceEqDiff, opA, val, opdA, opdO, T.get_put, ↓reduceIte, Nat.add_assoc, Nat.reduceAdd, Nat.left_eq_add, Nat.add_eq_left, Nat.add_left_cancel_iff, Nat.add_zero, plainN, omap, Option.map_some, Option.bind_some, Nat.le_add_right, Nat.le_refl, binA, intBinA, loadV, readA, storeV, writeA, fieldAddrA, indexAddrA, lenA, builtinA, newA, unA, packA, if_true, and_self, and_true, true_and, Value.cells, Int.toNat_natCast, decide_true, decide_false, cond_true, cond_false, h43, k42, k41, k6, hlt, un35, sz3, ty3, hb, g1, g3, un95, sz4, ty4, hb2, o1, o3, hsi, Bool.not_false, w2', hl1, hone, hlk, h7, buildSliceA, el35, zr3, zerosL, fillA]; rfl)
         · rfl
         try (· rfl))
      | ((first
          | (with_reducible apply d_do
             · rfl
             · rfl)
          | (with_reducible apply d_quiet
             · rfl
             · rfl
             · rfl))
         · (simp only [Nat.reduceEqDiff, opA, val, opdA, opdO, T.get_put, ↓reduceIte, Nat.add_assoc, Nat.reduceAdd, Nat.left_eq_add, Nat.add_eq_left, Nat.add_left_cancel_iff, Nat.add_zero, plainN, omap, Option.map_some, Option.bind_some, Nat.le_add_right, Nat.le_refl, binA, intBinA, loadV, readA, storeV, writeA, fieldAddrA, indexAddrA, lenA, builtinA, newA, unA, packA, if_true, and_self, and_true, true_and, Value.cells, Int.toNat_natCast, decide_true, decide_false, cond_true, cond_false, h43, k42, k41, k6, hlt, un35, sz3, ty3, hb, g1, g3, un95, sz4, ty4, hb2, o1, o3, hsi, Bool.not_false, w2', hl1, hone, hlk, h7, buildSliceA, el35, zr3, zerosL, fillA]; rfl)
         first
         | · rfl
         | (· (simp only [Nat.reduceEqDiff, loadBlk, opdA, T.get_put, ↓reduceIte, h43, k42, k41, k6, hlt, un35, sz3, ty3, hb, g1, g3, un95, sz4, ty4, hb2, o1, o3, hsi, Bool.not_false, w2', hl1, hone, hlk, h7, buildSliceA, el35, zr3, zerosL, fillA]; rfl)
            · rfl))
      | ((first
          | with_reducible apply ops_skipG
          | (with_reducible apply d_skip
             · rfl))
         · rfl
         · rfl
         · (simp only [Nat.reduceEqDiff, T.get_put, ↓reduceIte, h43, k42, k41, k6, hlt, un35, sz3, ty3, hb, g1, g3, un95, sz4, ty4, hb2, o1, o3, hsi, Bool.not_false, w2', hl1, hone, hlk, h7, buildSliceA, el35, zr3, zerosL, fillA]; rfl)
         · (simp only [decide_true, decide_false, h43, k42, k41, k6, hlt, un35, sz3, ty3, hb, g1, g3, un95, sz4, ty4, hb2, o1, o3, hsi, Bool.not_false, w2', hl1, hone, hlk, h7, buildSliceA, el35, zr3, zerosL, fillA, bt_tf, bt_ft, bt_tt, bt_ff]; done)
         · rfl)
      | ((first
          | with_reducible apply ops_doG
          | (with_reducible apply d_sameG
             · rfl))
         · rfl
         · rfl
         · (simp only [Nat.reduceEqDiff, T.get_put, ↓reduceIte, h43, k42, k41, k6, hlt, un35, sz3, ty3, hb, g1, g3, un95, sz4, ty4, hb2, o1, o3, hsi, Bool.not_false, w2', hl1, hone, hlk, h7, buildSliceA, el35, zr3, zerosL, fillA]; rfl)
         · (simp only [decide_true, decide_false, h43, k42, k41, k6, hlt, un35, sz3, ty3, hb, g1, g3, un95, sz4, ty4, hb2, o1, o3, hsi, Bool.not_false, w2', hl1, hone, hlk, h7, buildSliceA, el35, zr3, zerosL, fillA, bt_tf, bt_ft, bt_tt, bt_ff]; done)
         · (simp only [Nat.reduceEqDiff, opA, val, opdA, opdO, T.get_put, ↓reduceIte, Nat.add_assoc, Nat.reduceAdd, Nat.left_eq_add, Nat.add_eq_left, Nat.add_left_cancel_iff, Nat.add_zero, plainN, omap, Option.map_some, Option.bind_some, Nat.le_add_right, Nat.le_refl, binA, intBinA, loadV, readA, storeV, writeA, fieldAddrA, indexAddrA, lenA, builtinA, newA, unA, packA, if_true, and_self, and_true, true_and, Value.cells, Int.toNat_natCast, decide_true, decide_false, cond_true, cond_false, h43, k42, k41, k6, hlt, un35, sz3, ty3, hb, g1, g3, un95, sz4, ty4, hb2, o1, o3, hsi, Bool.not_false, w2', hl1, hone, hlk, h7, buildSliceA, el35, zr3, zerosL, fillA]; rfl)
         · rfl
         try (· rfl))
      | (with_reducible apply c_if
         · (simp only [Nat.reduceEqDiff, opdA, opdO, T.get_put, ↓reduceIte, Nat.add_assoc, Nat.reduceAdd, Nat.left_eq_add, Nat.add_eq_left, Nat.add_left_cancel_iff, Nat.add_zero, plainN, omap, Option.map_some, Option.bind_some, Nat.le_add_right, Nat.le_refl, decide_true, decide_false, h43, k42, k41, k6, hlt, un35, sz3, ty3, hb, g1, g3, un95, sz4, ty4, hb2, o1, o3, hsi, Bool.not_false, w2', hl1, hone, hlk, h7, buildSliceA, el35, zr3, zerosL, fillA]; rfl)
         with_reducible first | apply if_t | apply if_f))
                  have hwn := hst.lt rfl
                  generalize hst0 : ({ hp := (w.hp.put s1.nx (some (.cells true 4 (putL cs3 (0 + i * 1) [.bool true])))).put w.nx (some (.cells true 3 (putL ([.int .i64 0] ++ []) (0 * 1) [.int .i64 i]))), nx := w.nx + 1 } : HS) = w2s
                  have hw2n : w2s.nx = w.nx + 1 := by rw [← hst0]
                  have hw2o : ∀ id, id ≠ s1.nx → id < w.nx → w2s.hp.get id = w.hp.get id := fun id h1 h2 => by
                    rw [← hst0]; dsimp only; rw [T.get_put_ne _ _ _ (by omega), T.get_put_ne _ _ _ h1]
                  have hw2s : w2s.hp.get s1.nx = some (.cells true 4 (putL cs3 (0 + i * 1) [.bool true])) := by rw [← hst0]; dsimp only; rw [T.get_put_ne _ _ _ (by omega), T.get_put_eq]
                  have hw2y : w2s.hp.get w.nx = some (.cells true 3 [.int .i64 i]) := by rw [← hst0]; exact T.get_put_eq _ _ _
                  have hql : q.length ≤ 1000200 := by omega
                  (first
      | (with_reducible apply ops_opt
         · rfl
         · (simp only [Nat.reduceEqDiff, opA, val, opdA, opdO, T.get_put, ↓reduceIte, Nat.add_assoc, Nat.reduceAdd, Nat.left_eq_add, Nat.add_eq_left, Nat.add_left_cancel_iff, Nat.add_zero, plainN, omap, Option.map_some, Option.bind_some, Nat.le_add_right, Nat.le_refl, binA, intBinA, loadV, readA, storeV, writeA, fieldAddrA, indexAddrA, lenA, builtinA, newA, unA, packA, if_true, and_self, and_true, true_and, Value.cells, Int.toNat_natCast, decide_true, decide_false, cond_true, cond_false, un35, h7]; rfl))
      | (with_reducible apply d_opt
         · rfl
         · rfl
         · (simp only [Nat.reduceEqDiff, opA, val, opdA, opdO, T.get_put, ↓reduceIte, Nat.add_assoc, Nat.reduceAdd, Nat.left_eq_add, Nat.add_eq_left, Nat.add_left_cancel_iff, Nat.add_zero, plainN, omap, Option.map_some, Option.bind_some, Nat.le_add_right, Nat.le_refl, binA, intBinA, loadV, readA, storeV, writeA, fieldAddrA, indexAddrA, lenA, builtinA, newA, unA, packA, if_true, and_self, and_true, true_and, Value.cells, Int.toNat_natCast, decide_true, decide_false, cond_true, cond_false, un35, h7]; rfl)))
                  have hq2 : Own w2s 3 1 oq qv (q.map encI) := hq.same (by omega) fun id h => hw2o id (by have := hnq id h; omega) (hq.lt h)
                  refine opt_ex (app_one (lk := s1.nx) (y := [.int .i64 i]) el35 sz3 by3 zr3 rfl (by decide) hq2 (fun id h => by have := hnq id h; omega) hw2y rfl rfl (by simp; omega)) fun p hp => ?_
                  obtain ⟨pv, s5⟩ := p
                  obtain ⟨p1, p2, o', p3, p4⟩ := hp
                  dsimp only at p1 p2 p3
                  refine opt_of rfl ?_
                  repeat (first
      | with_reducible first | apply ops_end | apply d_end | apply k_seq | apply k_seq_ret | apply k_seq_exit | apply k_block | apply k_block_ret | apply k_block_here | apply c_seq | apply c_block | apply c_region | apply c_skip | apply c_ret | apply c_exit | apply c_loop | apply k_loop_exit | apply k_loop_ret
      | (with_reducible apply k_block_on
         · decide)
      | ((first
          | (with_reducible apply ops_do
             · rfl)
          | (with_reducible apply d_same
             · rfl
             · rfl))
         · (simp only [Nat.reduceEqDiff, opA, val, opdA, opdO, T.get_put, ↓reduceIte, Nat.add_assoc, Nat.reduceAdd, Nat.left_eq_add, Nat.add_eq_left, Nat.add_left_cancel_iff, Nat.add_zero, plainN, omap, Option.map_some, Option.bind_some, Nat.le_add_right, Nat.le_refl, binA, intBinA, loadV, readA, storeV, writeA, fieldAddrA, indexAddrA, lenA, builtinA, newA, unA, packA, if_true, and_self, and_true, true_and, Value.cells, Int.toNat_natCast, decide_true, decide_false, cond_true, cond_false, h43, hw]; rfl)
         · rfl
         try (· rfl))
      | ((first
          | (with_reducible apply d_do
             · rfl
             · rfl)
          | (with_reducible apply d_quiet
             · rfl
             · rfl
             · rfl))
         · (simp only [Nat.reduceEqDiff, opA, val, opdA, opdO, T.get_put, ↓reduceIte, Nat.add_assoc, Nat.reduceAdd, Nat.left_eq_add, Nat.add_eq_left, Nat.add_left_cancel_iff, Nat.add_zero, plainN, omap, Option.map_some, Option.bind_some, Nat.le_add_right, Nat.le_refl, binA, intBinA, loadV, readA, storeV, writeA, fieldAddrA, indexAddrA, lenA, builtinA, newA, unA, packA, if_true, and_self, and_true, true_and, Value.cells, Int.toNat_natCast, decide_true, decide_false, cond_true, cond_false, h43, hw]; rfl)
         first
         | · rfl
         | (· (simp only [Nat.reduceEqDiff, loadBlk, opdA, T.get_put, ↓reduceIte, h43, hw]; rfl)
            · rfl))
      | ((first
          | with_reducible apply ops_skipG
          | (with_reducible apply d_skip
             · rfl))
         · rfl
         · rfl
         · (simp only [Nat.reduceEqDiff, T.get_put, ↓reduceIte, h43, hw]; rfl)
         · (simp only [decide_true, decide_false, h43, hw, bt_tf, bt_ft, bt_tt, bt_ff]; done)
         · rfl)
      | ((first
          | with_reducible apply ops_doG
          | (with_reducible apply d_sameG
             · rfl))
         · rfl
         · rfl
         · (simp only [Nat.reduceEqDiff, T.get_put, ↓reduceIte, h43, hw]; rfl)
         · (simp only [decide_true, decide_false, h43, hw, bt_tf, bt_ft, bt_tt, bt_ff]; done)
         · (simp only [Nat.reduceEqDiff, opA, val, opdA, opdO, T.get_put, ↓reduceIte, Nat.add_assoc, Nat.reduceAdd, Nat.left_eq_add, Nat.add_eq_left, Nat.add_left_cancel_iff, Nat.add_zero, plainN, omap, Option.map_some, Option.bind_some, Nat.le_add_right, Nat.le_refl, binA, intBinA, loadV, readA, storeV, writeA, fieldAddrA, indexAddrA, lenA, builtinA, newA, unA, packA, if_true, and_self, and_true, true_and, Value.cells, Int.toNat_natCast, decide_true, decide_false, cond_true, cond_false, h43, hw]; rfl)
         · rfl
         try (· rfl))
      | (with_reducible apply c_if
         · (simp only [Nat.reduceEqDiff, opdA, opdO, T.get_put, ↓reduceIte, Nat.add_assoc, Nat.reduceAdd, Nat.left_eq_add, Nat.add_eq_left, Nat.add_left_cancel_iff, Nat.add_zero, plainN, omap, Option.map_some, Option.bind_some, Nat.le_add_right, Nat.le_refl, decide_true, decide_false, h43, hw]; rfl)
         with_reducible first | apply if_t | apply if_f))
                  intro _ _
                  have hcs := count_set (seen := seen) (i := i) (by rw [List.getElem?_eq_getElem his, hsi])
                  refine k_loop_next (m' := m2 - 1) (by omega) ⟨j + 1, by omega, by simp only [Nat.reduceEqDiff, T.get_put, ↓reduceIte], q ++ [(i : Int)], seen.set i true, o', pv, by simp; omega, by simp only [Nat.reduceEqDiff, T.get_put, ↓reduceIte],
                    by rw [List.map_append]; exact p3, fun id h => ?_, ?_, hbf.mark hkm his hedge, (Mk.set his).2 (Or.inl hkm), htake (fun y hy => (Mk.set his).2 (Or.inl (hdone y hy))) ((Mk.set his).2 (Or.inr rfl))⟩
                  · rcases p4 with rfl | rfl
                    · exact hnq id h
                    · cases h; omega
                  · rw [List.map_set]
                    refine w3 _ (by omega) ?_
                    rw [p2 s1.nx (by omega) (fun h => by have := hnq _ h; omega)]
                    exact hw2s
              · repeat (first
      | with_reducible first | apply ops_end | apply d_end | apply k_seq | apply k_seq_ret | apply k_seq_exit | apply k_block | apply k_block_ret | apply k_block_here | apply c_seq | apply c_block | apply c_region | apply c_skip | apply c_ret | apply c_exit | apply c_loop | apply k_loop_exit | apply k_loop_ret
      | (with_reducible apply k_block_on
         · decide)
      | ((first
          | (with_reducible apply ops_do
             · rfl)
          | (with_reducible apply d_same
             · rfl
             · rfl))
         · (simp only [Nat.reduceEqDiff, opA, val, opdA, opdO, T.get_put, ↓reduceIte, Nat.add_assoc, Nat.reduceAdd, Nat.left_eq_add, Nat.add_eq_left, Nat.add_left_cancel_iff, Nat.add_zero, plainN, omap, Option.map_some, Option.bind_some, Nat.le_add_right, Nat.le_refl, binA, intBinA, loadV, readA, storeV, writeA, fieldAddrA, indexAddrA, lenA, builtinA, newA, unA, packA, if_true, and_self, and_true, true_and, Value.cells, Int.toNat_natCast, decide_true, decide_false, cond_true, cond_false, h43, k42, hlt]; rfl)
         · rfl
         try (· rfl))
      | ((first
          | (with_reducible apply d_do
             · rfl
             · rfl)
          | (with_reducible apply d_quiet
             · rfl
             · rfl
             · rfl))
         · (simp only [Nat.reduceEqDiff, opA, val, opdA, opdO, T.get_put, ↓reduceIte, Nat.add_assoc, Nat.reduceAdd, Nat.left_eq_add, Nat.add_eq_left, Nat.add_left_cancel_iff, Nat.add_zero, plainN, omap, Option.map_some, Option.bind_some, Nat.le_add_right, Nat.le_refl, binA, intBinA, loadV, readA, storeV, writeA, fieldAddrA, indexAddrA, lenA, builtinA, newA, unA, packA, if_true, and_self, and_true, true_and, Value.cells, Int.toNat_natCast, decide_true, decide_false, cond_true, cond_false, h43, k42, hlt]; rfl)
         first
         | · rfl
         | (· (simp only [Nat.reduceEqDiff, loadBlk, opdA, T.get_put, ↓reduceIte, h43, k42, hlt]; rfl)
            · rfl))
      | ((first
          | with_reducible apply ops_skipG
          | (with_reducible apply d_skip
             · rfl))
         · rfl
         · rfl
         · (simp only [Nat.reduceEqDiff, T.get_put, ↓reduceIte, h43, k42, hlt]; rfl)
         · (simp only [decide_true, decide_false, h43, k42, hlt, bt_tf, bt_ft, bt_tt, bt_ff]; done)
         · rfl)
      | ((first
          | with_reducible apply ops_doG
          | (with_reducible apply d_sameG
             · rfl))
         · rfl
         · rfl
         · (simp only [Nat.reduceEqDiff, T.get_put, ↓reduceIte, h43, k42, hlt]; rfl)
         · (simp only [decide_true, decide_false, h43, k42, hlt, bt_tf, bt_ft, bt_tt, bt_ff]; done)
         · (simp only [Nat.reduceEqDiff, opA, val, opdA, opdO, T.get_put, ↓reduceIte, Nat.add_assoc, Nat.reduceAdd, Nat.left_eq_add, Nat.add_eq_left, Nat.add_left_cancel_iff, Nat.add_zero, plainN, omap, Option.map_some, Option.bind_some, Nat.le_add_right, Nat.le_refl, binA, intBinA, loadV, readA, storeV, writeA, fieldAddrA, indexAddrA, lenA, builtinA, newA, unA, packA, if_true, and_self, and_true, true_and, Value.cells, Int.toNat_natCast, decide_true, decide_false, cond_true, cond_false, h43, k42, hlt]; rfl)
         · rfl
         try (· rfl))
      | (with_reducible apply c_if
         · (simp only [Nat.reduceEqDiff, opdA, opdO, T.get_put, ↓reduceIte, Nat.add_assoc, Nat.reduceAdd, Nat.left_eq_add, Nat.add_eq_left, Nat.add_left_cancel_iff, Nat.add_zero, plainN, omap, Option.map_some, Option.bind_some, Nat.le_add_right, Nat.le_refl, decide_true, decide_false, h43, k42, hlt]; rfl)
         with_reducible first | apply if_t | apply if_f))
                intro _ _
                repeat (first
      | with_reducible first | apply ops_end | apply d_end | apply k_seq | apply k_seq_ret | apply k_seq_exit | apply k_block | apply k_block_ret | apply k_block_here | apply c_seq | apply c_block | apply c_region | apply c_skip | apply c_ret | apply c_exit | apply c_loop | apply k_loop_exit | apply k_loop_ret
      | (with_reducible apply k_block_on
         · decide)
      | ((first
          | (with_reducible apply ops_do
             · rfl)
          | (with_reducible apply d_same
             · rfl
             · rfl))
         · (simp only [Nat.reduceEqDiff, opA, val, opdA, opdO, T.get_put, ↓reduceIte, Nat.add_assoc, Nat.reduceAdd, Nat.left_eq_add, Nat.add_eq_left, Nat.add_left_cancel_iff, Nat.add_zero, plainN, omap, Option.map_some, Option.bind_some, Nat.le_add_right, Nat.le_refl, binA, intBinA, loadV, readA, storeV, writeA, fieldAddrA, indexAddrA, lenA, builtinA, newA, unA, packA, if_true, and_self, and_true, true_and, Value.cells, Int.toNat_natCast, decide_true, decide_false, cond_true, cond_false]; rfl)
         · rfl
         try (· rfl))
      | ((first
          | (with_reducible apply d_do
             · rfl
             · rfl)
          | (with_reducible apply d_quiet
             · rfl
             · rfl
             · rfl))
         · (simp only [Nat.reduceEqDiff, opA, val, opdA, opdO, T.get_put, ↓reduceIte, Nat.add_assoc, Nat.reduceAdd, Nat.left_eq_add, Nat.add_eq_left, Nat.add_left_cancel_iff, Nat.add_zero, plainN, omap, Option.map_some, Option.bind_some, Nat.le_add_right, Nat.le_refl, binA, intBinA, loadV, readA, storeV, writeA, fieldAddrA, indexAddrA, lenA, builtinA, newA, unA, packA, if_true, and_self, and_true, true_and, Value.cells, Int.toNat_natCast, decide_true, decide_false, cond_true, cond_false]; rfl)
         first
         | · rfl
         | (· (simp only [Nat.reduceEqDiff, loadBlk, opdA, T.get_put, ↓reduceIte]; rfl)
            · rfl))
      | ((first
          | with_reducible apply ops_skipG
          | (with_reducible apply d_skip
             · rfl))
         · rfl
         · rfl
         · (simp only [Nat.reduceEqDiff, T.get_put, ↓reduceIte]; rfl)
         · (simp only [decide_true, decide_false, bt_tf, bt_ft, bt_tt, bt_ff]; done)
         · rfl)
      | ((first
          | with_reducible apply ops_doG
          | (with_reducible apply d_sameG
             · rfl))
         · rfl
         · rfl
         · (simp only [Nat.reduceEqDiff, T.get_put, ↓reduceIte]; rfl)
         · (simp only [decide_true, decide_false, bt_tf, bt_ft, bt_tt, bt_ff]; done)
         · (simp only [Nat.reduceEqDiff, opA, val, opdA, opdO, T.get_put, ↓reduceIte, Nat.add_assoc, Nat.reduceAdd, Nat.left_eq_add, Nat.add_eq_left, Nat.add_left_cancel_iff, Nat.add_zero, plainN, omap, Option.map_some, Option.bind_some, Nat.le_add_right, Nat.le_refl, binA, intBinA, loadV, readA, storeV, writeA, fieldAddrA, indexAddrA, lenA, builtinA, newA, unA, packA, if_true, and_self, and_true, true_and, Value.cells, Int.toNat_natCast, decide_true, decide_false, cond_true, cond_false]; rfl)
         · rfl
         try (· rfl))
      | (with_reducible apply c_if
         · (simp only [Nat.reduceEqDiff, opdA, opdO, T.get_put, ↓reduceIte, Nat.add_assoc, Nat.reduceAdd, Nat.left_eq_add, Nat.add_eq_left, Nat.add_left_cancel_iff, Nat.add_zero, plainN, omap, Option.map_some, Option.bind_some, Nat.le_add_right, Nat.le_refl, decide_true, decide_false]; rfl)
         with_reducible first | apply if_t | apply if_f))
                intro _ _
                have hall : (succL es kn).take j = succL es kn := List.take_of_length_le (by simp at hlt; omega)
                rw [hall] at hdone
                exact k_loop_next (m' := 2 * seen.count false + q.length) hm ⟨q, seen, oq, qv, rfl, by omega, by simp only [Nat.reduceEqDiff, T.get_put, ↓reduceIte, h7], hq, hnq, hst, hbf.done1 hdone⟩
end Go.Ev
