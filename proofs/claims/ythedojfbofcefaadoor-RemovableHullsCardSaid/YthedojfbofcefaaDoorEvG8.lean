/- The model: sameInts, bits, nodes, hull. -/
import Derived.Test.YthedojfbofcefaaDoorEvG7
import Derived.Test.YthedojfbofcefaaDoorEvBit
namespace Go.Ev
open Go Go.Proofs
set_option linter.unusedSimpArgs false
set_option linter.unusedVariables false
set_option maxRecDepth 100000
set_option maxHeartbeats 4000000
attribute [local irreducible] wpOps wpC wpD wpF wpLoop wpCall seqK blockK loopK retK T.put T.get T.setF

def eqI : List Int → List Int → Bool
  | [], [] => true
  | x :: xs, y :: ys => (x == y) && eqI xs ys
  | _, _ => false
theorem eqI_iff {a b : List Int} : eqI a b = true ↔ a = b := by
  induction a generalizing b with
  | nil => cases b <;> simp [eqI]
  | cons x xs ih => cases b with
    | nil => simp [eqI]
    | cons y ys => simp [eqI, ih]
theorem eqI_dec (a b : List Int) : eqI a b = decide (a = b) := by
  cases h : eqI a b with
  | true => rw [eqI_iff] at h; simp [h]
  | false => rw [eq_comm, decide_eq_false_iff_not]; intro e; rw [eqI_iff.2 e] at h; cases h

theorem f15_spec (a b : List Int) (av bv : Value) (s : HS) (ha : Sl s 1 av (a.map encI)) (hb : Sl s 1 bv (b.map encI)) (hl : a.length < 1000000000) :
    wpF Tryd.prog s.nx 15 [av, bv] s (fun v s' => v = .bool (decide (a = b)) ∧ s' = s) := by
  obtain ⟨p1, c1, rfl⟩ := ha.shape
  obtain ⟨p2, c2, rfl⟩ := hb.shape
  refine wpF_of Tryd.func15 rfl rfl rfl rfl (Nat.le_refl _) ?_
  simp only [paramsA]
  by_cases hne : (((a.map encI).length : Int) != ((b.map encI).length : Int)) = true
  · repeat (first
      | with_reducible first | apply ops_end | apply d_end | apply k_seq | apply k_seq_ret | apply k_seq_exit | apply k_block | apply k_block_ret | apply k_block_here | apply c_seq | apply c_block | apply c_region | apply c_skip | apply c_ret | apply c_exit | apply c_loop | apply k_loop_exit | apply k_loop_ret
      | (with_reducible apply k_block_on
         · decide)
      | ((first
          | (with_reducible apply ops_do
             · rfl)
          | (with_reducible apply d_same
             · rfl
             · rfl))
         · (simp only [Nat.reduceEqDiff, opA, val, opdA, opdO, T.get_put, ↓reduceIte, Nat.add_assoc, Nat.reduceAdd, Nat.left_eq_add, Nat.add_eq_left, Nat.add_left_cancel_iff, Nat.add_zero, plainN, omap, Option.map_some, Option.bind_some, Nat.le_add_right, Nat.le_refl, binA, intBinA, loadV, readA, storeV, writeA, fieldAddrA, indexAddrA, lenA, builtinA, newA, unA, packA, if_true, and_self, and_true, true_and, Value.cells, Int.toNat_natCast, decide_true, decide_false, cond_true, cond_false, un35, hne]; rfl)
         · rfl
         try (· rfl))
      | ((first
          | (with_reducible apply d_do
             · rfl
             · rfl)
          | (with_reducible apply d_quiet
             · rfl
             · rfl
             · rfl))
         · (simp only [Nat.reduceEqDiff, opA, val, opdA, opdO, T.get_put, ↓reduceIte, Nat.add_assoc, Nat.reduceAdd, Nat.left_eq_add, Nat.add_eq_left, Nat.add_left_cancel_iff, Nat.add_zero, plainN, omap, Option.map_some, Option.bind_some, Nat.le_add_right, Nat.le_refl, binA, intBinA, loadV, readA, storeV, writeA, fieldAddrA, indexAddrA, lenA, builtinA, newA, unA, packA, if_true, and_self, and_true, true_and, Value.cells, Int.toNat_natCast, decide_true, decide_false, cond_true, cond_false, un35, hne]; rfl)
         first
         | · rfl
         | (· (simp only [Nat.reduceEqDiff, loadBlk, opdA, T.get_put, ↓reduceIte, un35, hne]; rfl)
            · rfl))
      | ((first
          | with_reducible apply ops_skipG
          | (with_reducible apply d_skip
             · rfl))
         · rfl
         · rfl
         · (simp only [Nat.reduceEqDiff, T.get_put, ↓reduceIte, un35, hne]; rfl)
         · (simp only [decide_true, decide_false, un35, hne, bt_tf, bt_ft, bt_tt, bt_ff]; done)
         · rfl)
      | ((first
          | with_reducible apply ops_doG
          | (with_reducible apply d_sameG
             · rfl))
         · rfl
         · rfl
         · (simp only [Nat.reduceEqDiff, T.get_put, ↓reduceIte, un35, hne]; rfl)
         · (simp only [decide_true, decide_false, un35, hne, bt_tf, bt_ft, bt_tt, bt_ff]; done)
         · (simp only [Nat.reduceEqDiff, opA, val, opdA, opdO, T.get_put, ↓reduceIte, Nat.add_assoc, Nat.reduceAdd, Nat.left_eq_add, Nat.add_eq_left, Nat.add_left_cancel_iff, Nat.add_zero, plainN, omap, Option.map_some, Option.bind_some, Nat.le_add_right, Nat.le_refl, binA, intBinA, loadV, readA, storeV, writeA, fieldAddrA, indexAddrA, lenA, builtinA, newA, unA, packA, if_true, and_self, and_true, true_and, Value.cells, Int.toNat_natCast, decide_true, decide_false, cond_true, cond_false, un35, hne]; rfl)
         · rfl
         try (· rfl))
      | (with_reducible apply c_if
         · (simp only [Nat.reduceEqDiff, opdA, opdO, T.get_put, ↓reduceIte, Nat.add_assoc, Nat.reduceAdd, Nat.left_eq_add, Nat.add_eq_left, Nat.add_left_cancel_iff, Nat.add_zero, plainN, omap, Option.map_some, Option.bind_some, Nat.le_add_right, Nat.le_refl, decide_true, decide_false, un35, hne]; rfl)
         with_reducible first | apply if_t | apply if_f))
    intro _
    (first
      | (with_reducible apply ret_i
         · (simp only [Nat.reduceEqDiff, omap, resA, opdA, opdO, T.get_put, ↓reduceIte, Nat.add_assoc, Nat.reduceAdd, Nat.left_eq_add, Nat.add_eq_left, Nat.add_left_cancel_iff, Nat.add_zero, plainN, omap, Option.map_some, Option.bind_some, Nat.le_add_right, Nat.le_refl, loadV, readA, packA]; rfl))
      | (with_reducible apply ret_n
         · (simp only [Nat.reduceEqDiff, omap, resA, opdA, opdO, T.get_put, ↓reduceIte, Nat.add_assoc, Nat.reduceAdd, Nat.left_eq_add, Nat.add_eq_left, Nat.add_left_cancel_iff, Nat.add_zero, plainN, omap, Option.map_some, Option.bind_some, Nat.le_add_right, Nat.le_refl, loadV, readA, packA]; rfl)))
    refine ⟨?_, rfl⟩
    have : ¬ a = b := fun e => by subst e; simp at hne
    simp only [this, decide_false]; rfl
  · simp only [Bool.not_eq_true] at hne
    have hlen : a.length = b.length := by simp at hne; omega
    repeat (first
      | with_reducible first | apply ops_end | apply d_end | apply k_seq | apply k_seq_ret | apply k_seq_exit | apply k_block | apply k_block_ret | apply k_block_here | apply c_seq | apply c_block | apply c_region | apply c_skip | apply c_ret | apply c_exit | apply c_loop | apply k_loop_exit | apply k_loop_ret
      | (with_reducible apply k_block_on
         · decide)
      | ((first
          | (with_reducible apply ops_do
             · rfl)
          | (with_reducible apply d_same
             · rfl
             · rfl))
         · (simp only [Nat.reduceEqDiff, opA, val, opdA, opdO, T.get_put, ↓reduceIte, Nat.add_assoc, Nat.reduceAdd, Nat.left_eq_add, Nat.add_eq_left, Nat.add_left_cancel_iff, Nat.add_zero, plainN, omap, Option.map_some, Option.bind_some, Nat.le_add_right, Nat.le_refl, binA, intBinA, loadV, readA, storeV, writeA, fieldAddrA, indexAddrA, lenA, builtinA, newA, unA, packA, if_true, and_self, and_true, true_and, Value.cells, Int.toNat_natCast, decide_true, decide_false, cond_true, cond_false, un35, hne]; rfl)
         · rfl
         try (· rfl))
      | ((first
          | (with_reducible apply d_do
             · rfl
             · rfl)
          | (with_reducible apply d_quiet
             · rfl
             · rfl
             · rfl))
         · (simp only [Nat.reduceEqDiff, opA, val, opdA, opdO, T.get_put, ↓reduceIte, Nat.add_assoc, Nat.reduceAdd, Nat.left_eq_add, Nat.add_eq_left, Nat.add_left_cancel_iff, Nat.add_zero, plainN, omap, Option.map_some, Option.bind_some, Nat.le_add_right, Nat.le_refl, binA, intBinA, loadV, readA, storeV, writeA, fieldAddrA, indexAddrA, lenA, builtinA, newA, unA, packA, if_true, and_self, and_true, true_and, Value.cells, Int.toNat_natCast, decide_true, decide_false, cond_true, cond_false, un35, hne]; rfl)
         first
         | · rfl
         | (· (simp only [Nat.reduceEqDiff, loadBlk, opdA, T.get_put, ↓reduceIte, un35, hne]; rfl)
            · rfl))
      | ((first
          | with_reducible apply ops_skipG
          | (with_reducible apply d_skip
             · rfl))
         · rfl
         · rfl
         · (simp only [Nat.reduceEqDiff, T.get_put, ↓reduceIte, un35, hne]; rfl)
         · (simp only [decide_true, decide_false, un35, hne, bt_tf, bt_ft, bt_tt, bt_ff]; done)
         · rfl)
      | ((first
          | with_reducible apply ops_doG
          | (with_reducible apply d_sameG
             · rfl))
         · rfl
         · rfl
         · (simp only [Nat.reduceEqDiff, T.get_put, ↓reduceIte, un35, hne]; rfl)
         · (simp only [decide_true, decide_false, un35, hne, bt_tf, bt_ft, bt_tt, bt_ff]; done)
         · (simp only [Nat.reduceEqDiff, opA, val, opdA, opdO, T.get_put, ↓reduceIte, Nat.add_assoc, Nat.reduceAdd, Nat.left_eq_add, Nat.add_eq_left, Nat.add_left_cancel_iff, Nat.add_zero, plainN, omap, Option.map_some, Option.bind_some, Nat.le_add_right, Nat.le_refl, binA, intBinA, loadV, readA, storeV, writeA, fieldAddrA, indexAddrA, lenA, builtinA, newA, unA, packA, if_true, and_self, and_true, true_and, Value.cells, Int.toNat_natCast, decide_true, decide_false, cond_true, cond_false, un35, hne]; rfl)
         · rfl
         try (· rfl))
      | (with_reducible apply c_if
         · (simp only [Nat.reduceEqDiff, opdA, opdO, T.get_put, ↓reduceIte, Nat.add_assoc, Nat.reduceAdd, Nat.left_eq_add, Nat.add_eq_left, Nat.add_left_cancel_iff, Nat.add_zero, plainN, omap, Option.map_some, Option.bind_some, Nat.le_add_right, Nat.le_refl, decide_true, decide_false, un35, hne]; rfl)
         with_reducible first | apply if_t | apply if_f))
    refine loop_k (lk' := s.nx) (s0 := s) (fun m f t => t = s ∧ ∃ k : Nat, k + m = a.length ∧ eqI (a.drop k) (b.drop k) = eqI a b ∧ f.get 5 = some (.int .i64 k)) a.length (Nat.le_refl _) (Nat.le_refl _) ?_ (Ab.refl _ _) ?_
    · exact ⟨rfl, 0, by omega, rfl, by simp only [Nat.reduceEqDiff, T.get_put, ↓reduceIte]; rfl⟩
    · rintro m f t ⟨rfl, k, hk, heq, h5⟩ hA hF
      (have k0 := hF 0 (by rfl); simp only [Nat.reduceEqDiff, T.get_put, ↓reduceIte] at k0; have k1 := hF 1 (by rfl); simp only [Nat.reduceEqDiff, T.get_put, ↓reduceIte] at k1)
      by_cases hlt : (k : Int) < ((a.map encI).length : Int)
      · have hlt' : k < a.length := by simp at hlt; omega
        have hlt2 : k < b.length := by omega
        obtain ⟨id, off, wr, e, cs, rfl, g1, g2, g3, g4⟩ := ha.at (i := k) (x := encI a[k]) (by simp [hlt'])
        obtain ⟨id', off', wr', e', cs', rfl, o1, o2, o3, o4⟩ := hb.at (i := k) (x := encI b[k]) (by simp [hlt2])
        have hb : (0 : Int) ≤ (k : Int) ∧ (k : Int) < ((a.map encI).length : Int) := ⟨by omega, hlt⟩
        have hb' : (0 : Int) ≤ (k : Int) ∧ (k : Int) < ((b.map encI).length : Int) := ⟨by omega, by simp; omega⟩
        have hw : IntKind.i64.wrap ((k : Int) + 1) = ((k + 1 : Nat) : Int) := by rw [IntWalk.i64_in _ (by omega)]; rfl
        simp only [encI] at g3 o3
        rw [List.drop_eq_getElem_cons hlt', List.drop_eq_getElem_cons hlt2, eqI] at heq
        repeat (first
      | with_reducible first | apply ops_end | apply d_end | apply k_seq | apply k_seq_ret | apply k_seq_exit | apply k_block | apply k_block_ret | apply k_block_here | apply c_seq | apply c_block | apply c_region | apply c_skip | apply c_ret | apply c_exit | apply c_loop | apply k_loop_exit | apply k_loop_ret
      | (with_reducible apply k_block_on
         · decide)
      | ((first
          | (with_reducible apply ops_do
             · rfl)
          | (with_reducible apply d_same
             · rfl
             · rfl))
         · (simp only [Nat.reduceEqDiff, opA, val, opdA, opdO, T.get_put, ↓reduceIte, Nat.add_assoc, Nat.reduceAdd, Nat.left_eq_add, Nat.add_eq_left, Nat.add_left_cancel_iff, Nat.add_zero, plainN, omap, Option.map_some, Option.bind_some, Nat.le_add_right, Nat.le_refl, binA, intBinA, loadV, readA, storeV, writeA, fieldAddrA, indexAddrA, lenA, builtinA, newA, unA, packA, if_true, and_self, and_true, true_and, Value.cells, Int.toNat_natCast, decide_true, decide_false, cond_true, cond_false, h5, k0, k1, un35, hlt]; rfl)
         · rfl
         try (· rfl))
      | ((first
          | (with_reducible apply d_do
             · rfl
             · rfl)
          | (with_reducible apply d_quiet
             · rfl
             · rfl
             · rfl))
         · (simp only [Nat.reduceEqDiff, opA, val, opdA, opdO, T.get_put, ↓reduceIte, Nat.add_assoc, Nat.reduceAdd, Nat.left_eq_add, Nat.add_eq_left, Nat.add_left_cancel_iff, Nat.add_zero, plainN, omap, Option.map_some, Option.bind_some, Nat.le_add_right, Nat.le_refl, binA, intBinA, loadV, readA, storeV, writeA, fieldAddrA, indexAddrA, lenA, builtinA, newA, unA, packA, if_true, and_self, and_true, true_and, Value.cells, Int.toNat_natCast, decide_true, decide_false, cond_true, cond_false, h5, k0, k1, un35, hlt]; rfl)
         first
         | · rfl
         | (· (simp only [Nat.reduceEqDiff, loadBlk, opdA, T.get_put, ↓reduceIte, h5, k0, k1, un35, hlt]; rfl)
            · rfl))
      | ((first
          | with_reducible apply ops_skipG
          | (with_reducible apply d_skip
             · rfl))
         · rfl
         · rfl
         · (simp only [Nat.reduceEqDiff, T.get_put, ↓reduceIte, h5, k0, k1, un35, hlt]; rfl)
         · (simp only [decide_true, decide_false, h5, k0, k1, un35, hlt, bt_tf, bt_ft, bt_tt, bt_ff]; done)
         · rfl)
      | ((first
          | with_reducible apply ops_doG
          | (with_reducible apply d_sameG
             · rfl))
         · rfl
         · rfl
         · (simp only [Nat.reduceEqDiff, T.get_put, ↓reduceIte, h5, k0, k1, un35, hlt]; rfl)
         · (simp only [decide_true, decide_false, h5, k0, k1, un35, hlt, bt_tf, bt_ft, bt_tt, bt_ff]; done)
         · (simp only [Nat.reduceEqDiff, opA, val, opdA, opdO, T.get_put, ↓reduceIte, Nat.add_assoc, Nat.reduceAdd, Nat.left_eq_add, Nat.add_eq_left, Nat.add_left_cancel_iff, Nat.add_zero, plainN, omap, Option.map_some, Option.bind_some, Nat.le_add_right, Nat.le_refl, binA, intBinA, loadV, readA, storeV, writeA, fieldAddrA, indexAddrA, lenA, builtinA, newA, unA, packA, if_true, and_self, and_true, true_and, Value.cells, Int.toNat_natCast, decide_true, decide_false, cond_true, cond_false, h5, k0, k1, un35, hlt]; rfl)
         · rfl
         try (· rfl))
      | (with_reducible apply c_if
         · (simp only [Nat.reduceEqDiff, opdA, opdO, T.get_put, ↓reduceIte, Nat.add_assoc, Nat.reduceAdd, Nat.left_eq_add, Nat.add_eq_left, Nat.add_left_cancel_iff, Nat.add_zero, plainN, omap, Option.map_some, Option.bind_some, Nat.le_add_right, Nat.le_refl, decide_true, decide_false, h5, k0, k1, un35, hlt]; rfl)
         with_reducible first | apply if_t | apply if_f))
        refine c_draw [⟨false, [], none⟩, ⟨false, [], none⟩, ⟨false, [], none⟩, ⟨false, [], none⟩, ⟨false, [], none⟩, ⟨false, [], none⟩, ⟨false, [], none⟩, ⟨false, [3], none⟩, ⟨true, [], none⟩] (by kernel_rfl) ?_
        by_cases hx : (a[k] != b[k]) = true
        · repeat (first
      | with_reducible first | apply ops_end | apply d_end | apply k_seq | apply k_seq_ret | apply k_seq_exit | apply k_block | apply k_block_ret | apply k_block_here | apply c_seq | apply c_block | apply c_region | apply c_skip | apply c_ret | apply c_exit | apply c_loop | apply k_loop_exit | apply k_loop_ret
      | (with_reducible apply k_block_on
         · decide)
      | ((first
          | (with_reducible apply ops_do
             · rfl)
          | (with_reducible apply d_same
             · rfl
             · rfl))
         · (simp only [Nat.reduceEqDiff, opA, val, opdA, opdO, T.get_put, ↓reduceIte, Nat.add_assoc, Nat.reduceAdd, Nat.left_eq_add, Nat.add_eq_left, Nat.add_left_cancel_iff, Nat.add_zero, plainN, omap, Option.map_some, Option.bind_some, Nat.le_add_right, Nat.le_refl, binA, intBinA, loadV, readA, storeV, writeA, fieldAddrA, indexAddrA, lenA, builtinA, newA, unA, packA, if_true, and_self, and_true, true_and, Value.cells, Int.toNat_natCast, decide_true, decide_false, cond_true, cond_false, h5, k0, k1, un35, hlt, sz35, sz3, ty3, hb, hb', g1, g3, o1, o3, hx]; rfl)
         · rfl
         try (· rfl))
      | ((first
          | (with_reducible apply d_do
             · rfl
             · rfl)
          | (with_reducible apply d_quiet
             · rfl
             · rfl
             · rfl))
         · (simp only [Nat.reduceEqDiff, opA, val, opdA, opdO, T.get_put, ↓reduceIte, Nat.add_assoc, Nat.reduceAdd, Nat.left_eq_add, Nat.add_eq_left, Nat.add_left_cancel_iff, Nat.add_zero, plainN, omap, Option.map_some, Option.bind_some, Nat.le_add_right, Nat.le_refl, binA, intBinA, loadV, readA, storeV, writeA, fieldAddrA, indexAddrA, lenA, builtinA, newA, unA, packA, if_true, and_self, and_true, true_and, Value.cells, Int.toNat_natCast, decide_true, decide_false, cond_true, cond_false, h5, k0, k1, un35, hlt, sz35, sz3, ty3, hb, hb', g1, g3, o1, o3, hx]; rfl)
         first
         | · rfl
         | (· (simp only [Nat.reduceEqDiff, loadBlk, opdA, T.get_put, ↓reduceIte, h5, k0, k1, un35, hlt, sz35, sz3, ty3, hb, hb', g1, g3, o1, o3, hx]; rfl)
            · rfl))
      | ((first
          | with_reducible apply ops_skipG
          | (with_reducible apply d_skip
             · rfl))
         · rfl
         · rfl
         · (simp only [Nat.reduceEqDiff, T.get_put, ↓reduceIte, h5, k0, k1, un35, hlt, sz35, sz3, ty3, hb, hb', g1, g3, o1, o3, hx]; rfl)
         · (simp only [decide_true, decide_false, h5, k0, k1, un35, hlt, sz35, sz3, ty3, hb, hb', g1, g3, o1, o3, hx, bt_tf, bt_ft, bt_tt, bt_ff]; done)
         · rfl)
      | ((first
          | with_reducible apply ops_doG
          | (with_reducible apply d_sameG
             · rfl))
         · rfl
         · rfl
         · (simp only [Nat.reduceEqDiff, T.get_put, ↓reduceIte, h5, k0, k1, un35, hlt, sz35, sz3, ty3, hb, hb', g1, g3, o1, o3, hx]; rfl)
         · (simp only [decide_true, decide_false, h5, k0, k1, un35, hlt, sz35, sz3, ty3, hb, hb', g1, g3, o1, o3, hx, bt_tf, bt_ft, bt_tt, bt_ff]; done)
         · (simp only [Nat.reduceEqDiff, opA, val, opdA, opdO, T.get_put, ↓reduceIte, Nat.add_assoc, Nat.reduceAdd, Nat.left_eq_add, Nat.add_eq_left, Nat.add_left_cancel_iff, Nat.add_zero, plainN, omap, Option.map_some, Option.bind_some, Nat.le_add_right, Nat.le_refl, binA, intBinA, loadV, readA, storeV, writeA, fieldAddrA, indexAddrA, lenA, builtinA, newA, unA, packA, if_true, and_self, and_true, true_and, Value.cells, Int.toNat_natCast, decide_true, decide_false, cond_true, cond_false, h5, k0, k1, un35, hlt, sz35, sz3, ty3, hb, hb', g1, g3, o1, o3, hx]; rfl)
         · rfl
         try (· rfl))
      | (with_reducible apply c_if
         · (simp only [Nat.reduceEqDiff, opdA, opdO, T.get_put, ↓reduceIte, Nat.add_assoc, Nat.reduceAdd, Nat.left_eq_add, Nat.add_eq_left, Nat.add_left_cancel_iff, Nat.add_zero, plainN, omap, Option.map_some, Option.bind_some, Nat.le_add_right, Nat.le_refl, decide_true, decide_false, h5, k0, k1, un35, hlt, sz35, sz3, ty3, hb, hb', g1, g3, o1, o3, hx]; rfl)
         with_reducible first | apply if_t | apply if_f))
          intro _ _
          repeat (first
      | with_reducible first | apply ops_end | apply d_end | apply k_seq | apply k_seq_ret | apply k_seq_exit | apply k_block | apply k_block_ret | apply k_block_here | apply c_seq | apply c_block | apply c_region | apply c_skip | apply c_ret | apply c_exit | apply c_loop | apply k_loop_exit | apply k_loop_ret
      | (with_reducible apply k_block_on
         · decide)
      | ((first
          | (with_reducible apply ops_do
             · rfl)
          | (with_reducible apply d_same
             · rfl
             · rfl))
         · (simp only [Nat.reduceEqDiff, opA, val, opdA, opdO, T.get_put, ↓reduceIte, Nat.add_assoc, Nat.reduceAdd, Nat.left_eq_add, Nat.add_eq_left, Nat.add_left_cancel_iff, Nat.add_zero, plainN, omap, Option.map_some, Option.bind_some, Nat.le_add_right, Nat.le_refl, binA, intBinA, loadV, readA, storeV, writeA, fieldAddrA, indexAddrA, lenA, builtinA, newA, unA, packA, if_true, and_self, and_true, true_and, Value.cells, Int.toNat_natCast, decide_true, decide_false, cond_true, cond_false]; rfl)
         · rfl
         try (· rfl))
      | ((first
          | (with_reducible apply d_do
             · rfl
             · rfl)
          | (with_reducible apply d_quiet
             · rfl
             · rfl
             · rfl))
         · (simp only [Nat.reduceEqDiff, opA, val, opdA, opdO, T.get_put, ↓reduceIte, Nat.add_assoc, Nat.reduceAdd, Nat.left_eq_add, Nat.add_eq_left, Nat.add_left_cancel_iff, Nat.add_zero, plainN, omap, Option.map_some, Option.bind_some, Nat.le_add_right, Nat.le_refl, binA, intBinA, loadV, readA, storeV, writeA, fieldAddrA, indexAddrA, lenA, builtinA, newA, unA, packA, if_true, and_self, and_true, true_and, Value.cells, Int.toNat_natCast, decide_true, decide_false, cond_true, cond_false]; rfl)
         first
         | · rfl
         | (· (simp only [Nat.reduceEqDiff, loadBlk, opdA, T.get_put, ↓reduceIte]; rfl)
            · rfl))
      | ((first
          | with_reducible apply ops_skipG
          | (with_reducible apply d_skip
             · rfl))
         · rfl
         · rfl
         · (simp only [Nat.reduceEqDiff, T.get_put, ↓reduceIte]; rfl)
         · (simp only [decide_true, decide_false, bt_tf, bt_ft, bt_tt, bt_ff]; done)
         · rfl)
      | ((first
          | with_reducible apply ops_doG
          | (with_reducible apply d_sameG
             · rfl))
         · rfl
         · rfl
         · (simp only [Nat.reduceEqDiff, T.get_put, ↓reduceIte]; rfl)
         · (simp only [decide_true, decide_false, bt_tf, bt_ft, bt_tt, bt_ff]; done)
         · (simp only [Nat.reduceEqDiff, opA, val, opdA, opdO, T.get_put, ↓reduceIte, Nat.add_assoc, Nat.reduceAdd, Nat.left_eq_add, Nat.add_eq_left, Nat.add_left_cancel_iff, Nat.add_zero, plainN, omap, Option.map_some, Option.bind_some, Nat.le_add_right, Nat.le_refl, binA, intBinA, loadV, readA, storeV, writeA, fieldAddrA, indexAddrA, lenA, builtinA, newA, unA, packA, if_true, and_self, and_true, true_and, Value.cells, Int.toNat_natCast, decide_true, decide_false, cond_true, cond_false]; rfl)
         · rfl
         try (· rfl))
      | (with_reducible apply c_if
         · (simp only [Nat.reduceEqDiff, opdA, opdO, T.get_put, ↓reduceIte, Nat.add_assoc, Nat.reduceAdd, Nat.left_eq_add, Nat.add_eq_left, Nat.add_left_cancel_iff, Nat.add_zero, plainN, omap, Option.map_some, Option.bind_some, Nat.le_add_right, Nat.le_refl, decide_true, decide_false]; rfl)
         with_reducible first | apply if_t | apply if_f))
          intro _
          (first
      | (with_reducible apply ret_i
         · (simp only [Nat.reduceEqDiff, omap, resA, opdA, opdO, T.get_put, ↓reduceIte, Nat.add_assoc, Nat.reduceAdd, Nat.left_eq_add, Nat.add_eq_left, Nat.add_left_cancel_iff, Nat.add_zero, plainN, omap, Option.map_some, Option.bind_some, Nat.le_add_right, Nat.le_refl, loadV, readA, packA]; rfl))
      | (with_reducible apply ret_n
         · (simp only [Nat.reduceEqDiff, omap, resA, opdA, opdO, T.get_put, ↓reduceIte, Nat.add_assoc, Nat.reduceAdd, Nat.left_eq_add, Nat.add_eq_left, Nat.add_left_cancel_iff, Nat.add_zero, plainN, omap, Option.map_some, Option.bind_some, Nat.le_add_right, Nat.le_refl, loadV, readA, packA]; rfl)))
          refine ⟨?_, rfl⟩
          have hx2 : (a[k] == b[k]) = false := by simpa [bne] using hx
          rw [hx2, Bool.false_and] at heq
          rw [← eqI_dec, ← heq]; rfl
        · simp only [Bool.not_eq_true] at hx
          repeat (first
      | with_reducible first | apply ops_end | apply d_end | apply k_seq | apply k_seq_ret | apply k_seq_exit | apply k_block | apply k_block_ret | apply k_block_here | apply c_seq | apply c_block | apply c_region | apply c_skip | apply c_ret | apply c_exit | apply c_loop | apply k_loop_exit | apply k_loop_ret
      | (with_reducible apply k_block_on
         · decide)
      | ((first
          | (with_reducible apply ops_do
             · rfl)
          | (with_reducible apply d_same
             · rfl
             · rfl))
         · (simp only [Nat.reduceEqDiff, opA, val, opdA, opdO, T.get_put, ↓reduceIte, Nat.add_assoc, Nat.reduceAdd, Nat.left_eq_add, Nat.add_eq_left, Nat.add_left_cancel_iff, Nat.add_zero, plainN, omap, Option.map_some, Option.bind_some, Nat.le_add_right, Nat.le_refl, binA, intBinA, loadV, readA, storeV, writeA, fieldAddrA, indexAddrA, lenA, builtinA, newA, unA, packA, if_true, and_self, and_true, true_and, Value.cells, Int.toNat_natCast, decide_true, decide_false, cond_true, cond_false, h5, k0, k1, un35, hlt, sz35, sz3, ty3, hb, hb', g1, g3, o1, o3, hx, hw]; rfl)
         · rfl
         try (· rfl))
      | ((first
          | (with_reducible apply d_do
             · rfl
             · rfl)
          | (with_reducible apply d_quiet
             · rfl
             · rfl
             · rfl))
         · (simp only [Nat.reduceEqDiff, opA, val, opdA, opdO, T.get_put, ↓reduceIte, Nat.add_assoc, Nat.reduceAdd, Nat.left_eq_add, Nat.add_eq_left, Nat.add_left_cancel_iff, Nat.add_zero, plainN, omap, Option.map_some, Option.bind_some, Nat.le_add_right, Nat.le_refl, binA, intBinA, loadV, readA, storeV, writeA, fieldAddrA, indexAddrA, lenA, builtinA, newA, unA, packA, if_true, and_self, and_true, true_and, Value.cells, Int.toNat_natCast, decide_true, decide_false, cond_true, cond_false, h5, k0, k1, un35, hlt, sz35, sz3, ty3, hb, hb', g1, g3, o1, o3, hx, hw]; rfl)
         first
         | · rfl
         | (· (simp only [Nat.reduceEqDiff, loadBlk, opdA, T.get_put, ↓reduceIte, h5, k0, k1, un35, hlt, sz35, sz3, ty3, hb, hb', g1, g3, o1, o3, hx, hw]; rfl)
            · rfl))
      | ((first
          | with_reducible apply ops_skipG
          | (with_reducible apply d_skip
             · rfl))
         · rfl
         · rfl
         · (simp only [Nat.reduceEqDiff, T.get_put, ↓reduceIte, h5, k0, k1, un35, hlt, sz35, sz3, ty3, hb, hb', g1, g3, o1, o3, hx, hw]; rfl)
         · (simp only [decide_true, decide_false, h5, k0, k1, un35, hlt, sz35, sz3, ty3, hb, hb', g1, g3, o1, o3, hx, hw, bt_tf, bt_ft, bt_tt, bt_ff]; done)
         · rfl)
      | ((first
          | with_reducible apply ops_doG
          | (with_reducible apply d_sameG
             · rfl))
         · rfl
         · rfl
         · (simp only [Nat.reduceEqDiff, T.get_put, ↓reduceIte, h5, k0, k1, un35, hlt, sz35, sz3, ty3, hb, hb', g1, g3, o1, o3, hx, hw]; rfl)
         · (simp only [decide_true, decide_false, h5, k0, k1, un35, hlt, sz35, sz3, ty3, hb, hb', g1, g3, o1, o3, hx, hw, bt_tf, bt_ft, bt_tt, bt_ff]; done)
         · (simp only [Nat.reduceEqDiff, opA, val, opdA, opdO, T.get_put, ↓reduceIte, Nat.add_assoc, Nat.reduceAdd, Nat.left_eq_add, Nat.add_eq_left, Nat.add_left_cancel_iff, Nat.add_zero, plainN, omap, Option.map_some, Option.bind_some, Nat.le_add_right, Nat.le_refl, binA, intBinA, loadV, readA, storeV, writeA, fieldAddrA, indexAddrA, lenA, builtinA, newA, unA, packA, if_true, and_self, and_true, true_and, Value.cells, Int.toNat_natCast, decide_true, decide_false, cond_true, cond_false, h5, k0, k1, un35, hlt, sz35, sz3, ty3, hb, hb', g1, g3, o1, o3, hx, hw]; rfl)
         · rfl
         try (· rfl))
      | (with_reducible apply c_if
         · (simp only [Nat.reduceEqDiff, opdA, opdO, T.get_put, ↓reduceIte, Nat.add_assoc, Nat.reduceAdd, Nat.left_eq_add, Nat.add_eq_left, Nat.add_left_cancel_iff, Nat.add_zero, plainN, omap, Option.map_some, Option.bind_some, Nat.le_add_right, Nat.le_refl, decide_true, decide_false, h5, k0, k1, un35, hlt, sz35, sz3, ty3, hb, hb', g1, g3, o1, o3, hx, hw]; rfl)
         with_reducible first | apply if_t | apply if_f))
          intro _ _
          have hx2 : (a[k] == b[k]) = true := by simpa [bne] using hx
          rw [hx2, Bool.true_and] at heq
          exact k_loop_next (m' := m - 1) (by omega) ⟨rfl, k + 1, by omega, heq, by simp only [Nat.reduceEqDiff, T.get_put, ↓reduceIte]⟩
      · repeat (first
      | with_reducible first | apply ops_end | apply d_end | apply k_seq | apply k_seq_ret | apply k_seq_exit | apply k_block | apply k_block_ret | apply k_block_here | apply c_seq | apply c_block | apply c_region | apply c_skip | apply c_ret | apply c_exit | apply c_loop | apply k_loop_exit | apply k_loop_ret
      | (with_reducible apply k_block_on
         · decide)
      | ((first
          | (with_reducible apply ops_do
             · rfl)
          | (with_reducible apply d_same
             · rfl
             · rfl))
         · (simp only [Nat.reduceEqDiff, opA, val, opdA, opdO, T.get_put, ↓reduceIte, Nat.add_assoc, Nat.reduceAdd, Nat.left_eq_add, Nat.add_eq_left, Nat.add_left_cancel_iff, Nat.add_zero, plainN, omap, Option.map_some, Option.bind_some, Nat.le_add_right, Nat.le_refl, binA, intBinA, loadV, readA, storeV, writeA, fieldAddrA, indexAddrA, lenA, builtinA, newA, unA, packA, if_true, and_self, and_true, true_and, Value.cells, Int.toNat_natCast, decide_true, decide_false, cond_true, cond_false, h5, k0, un35, hlt]; rfl)
         · rfl
         try (· rfl))
      | ((first
          | (with_reducible apply d_do
             · rfl
             · rfl)
          | (with_reducible apply d_quiet
             · rfl
             · rfl
             · rfl))
         · (simp only [Nat.reduceEqDiff, opA, val, opdA, opdO, T.get_put, ↓reduceIte, Nat.add_assoc, Nat.reduceAdd, Nat.left_eq_add, Nat.add_eq_left, Nat.add_left_cancel_iff, Nat.add_zero, plainN, omap, Option.map_some, Option.bind_some, Nat.le_add_right, Nat.le_refl, binA, intBinA, loadV, readA, storeV, writeA, fieldAddrA, indexAddrA, lenA, builtinA, newA, unA, packA, if_true, and_self, and_true, true_and, Value.cells, Int.toNat_natCast, decide_true, decide_false, cond_true, cond_false, h5, k0, un35, hlt]; rfl)
         first
         | · rfl
         | (· (simp only [Nat.reduceEqDiff, loadBlk, opdA, T.get_put, ↓reduceIte, h5, k0, un35, hlt]; rfl)
            · rfl))
      | ((first
          | with_reducible apply ops_skipG
          | (with_reducible apply d_skip
             · rfl))
         · rfl
         · rfl
         · (simp only [Nat.reduceEqDiff, T.get_put, ↓reduceIte, h5, k0, un35, hlt]; rfl)
         · (simp only [decide_true, decide_false, h5, k0, un35, hlt, bt_tf, bt_ft, bt_tt, bt_ff]; done)
         · rfl)
      | ((first
          | with_reducible apply ops_doG
          | (with_reducible apply d_sameG
             · rfl))
         · rfl
         · rfl
         · (simp only [Nat.reduceEqDiff, T.get_put, ↓reduceIte, h5, k0, un35, hlt]; rfl)
         · (simp only [decide_true, decide_false, h5, k0, un35, hlt, bt_tf, bt_ft, bt_tt, bt_ff]; done)
         · (simp only [Nat.reduceEqDiff, opA, val, opdA, opdO, T.get_put, ↓reduceIte, Nat.add_assoc, Nat.reduceAdd, Nat.left_eq_add, Nat.add_eq_left, Nat.add_left_cancel_iff, Nat.add_zero, plainN, omap, Option.map_some, Option.bind_some, Nat.le_add_right, Nat.le_refl, binA, intBinA, loadV, readA, storeV, writeA, fieldAddrA, indexAddrA, lenA, builtinA, newA, unA, packA, if_true, and_self, and_true, true_and, Value.cells, Int.toNat_natCast, decide_true, decide_false, cond_true, cond_false, h5, k0, un35, hlt]; rfl)
         · rfl
         try (· rfl))
      | (with_reducible apply c_if
         · (simp only [Nat.reduceEqDiff, opdA, opdO, T.get_put, ↓reduceIte, Nat.add_assoc, Nat.reduceAdd, Nat.left_eq_add, Nat.add_eq_left, Nat.add_left_cancel_iff, Nat.add_zero, plainN, omap, Option.map_some, Option.bind_some, Nat.le_add_right, Nat.le_refl, decide_true, decide_false, h5, k0, un35, hlt]; rfl)
         with_reducible first | apply if_t | apply if_f))
        intro _ _
        repeat (first
      | with_reducible first | apply ops_end | apply d_end | apply k_seq | apply k_seq_ret | apply k_seq_exit | apply k_block | apply k_block_ret | apply k_block_here | apply c_seq | apply c_block | apply c_region | apply c_skip | apply c_ret | apply c_exit | apply c_loop | apply k_loop_exit | apply k_loop_ret
      | (with_reducible apply k_block_on
         · decide)
      | ((first
          | (with_reducible apply ops_do
             · rfl)
          | (with_reducible apply d_same
             · rfl
             · rfl))
         · (simp only [Nat.reduceEqDiff, opA, val, opdA, opdO, T.get_put, ↓reduceIte, Nat.add_assoc, Nat.reduceAdd, Nat.left_eq_add, Nat.add_eq_left, Nat.add_left_cancel_iff, Nat.add_zero, plainN, omap, Option.map_some, Option.bind_some, Nat.le_add_right, Nat.le_refl, binA, intBinA, loadV, readA, storeV, writeA, fieldAddrA, indexAddrA, lenA, builtinA, newA, unA, packA, if_true, and_self, and_true, true_and, Value.cells, Int.toNat_natCast, decide_true, decide_false, cond_true, cond_false]; rfl)
         · rfl
         try (· rfl))
      | ((first
          | (with_reducible apply d_do
             · rfl
             · rfl)
          | (with_reducible apply d_quiet
             · rfl
             · rfl
             · rfl))
         · (simp only [Nat.reduceEqDiff, opA, val, opdA, opdO, T.get_put, ↓reduceIte, Nat.add_assoc, Nat.reduceAdd, Nat.left_eq_add, Nat.add_eq_left, Nat.add_left_cancel_iff, Nat.add_zero, plainN, omap, Option.map_some, Option.bind_some, Nat.le_add_right, Nat.le_refl, binA, intBinA, loadV, readA, storeV, writeA, fieldAddrA, indexAddrA, lenA, builtinA, newA, unA, packA, if_true, and_self, and_true, true_and, Value.cells, Int.toNat_natCast, decide_true, decide_false, cond_true, cond_false]; rfl)
         first
         | · rfl
         | (· (simp only [Nat.reduceEqDiff, loadBlk, opdA, T.get_put, ↓reduceIte]; rfl)
            · rfl))
      | ((first
          | with_reducible apply ops_skipG
          | (with_reducible apply d_skip
             · rfl))
         · rfl
         · rfl
         · (simp only [Nat.reduceEqDiff, T.get_put, ↓reduceIte]; rfl)
         · (simp only [decide_true, decide_false, bt_tf, bt_ft, bt_tt, bt_ff]; done)
         · rfl)
      | ((first
          | with_reducible apply ops_doG
          | (with_reducible apply d_sameG
             · rfl))
         · rfl
         · rfl
         · (simp only [Nat.reduceEqDiff, T.get_put, ↓reduceIte]; rfl)
         · (simp only [decide_true, decide_false, bt_tf, bt_ft, bt_tt, bt_ff]; done)
         · (simp only [Nat.reduceEqDiff, opA, val, opdA, opdO, T.get_put, ↓reduceIte, Nat.add_assoc, Nat.reduceAdd, Nat.left_eq_add, Nat.add_eq_left, Nat.add_left_cancel_iff, Nat.add_zero, plainN, omap, Option.map_some, Option.bind_some, Nat.le_add_right, Nat.le_refl, binA, intBinA, loadV, readA, storeV, writeA, fieldAddrA, indexAddrA, lenA, builtinA, newA, unA, packA, if_true, and_self, and_true, true_and, Value.cells, Int.toNat_natCast, decide_true, decide_false, cond_true, cond_false]; rfl)
         · rfl
         try (· rfl))
      | (with_reducible apply c_if
         · (simp only [Nat.reduceEqDiff, opdA, opdO, T.get_put, ↓reduceIte, Nat.add_assoc, Nat.reduceAdd, Nat.left_eq_add, Nat.add_eq_left, Nat.add_left_cancel_iff, Nat.add_zero, plainN, omap, Option.map_some, Option.bind_some, Nat.le_add_right, Nat.le_refl, decide_true, decide_false]; rfl)
         with_reducible first | apply if_t | apply if_f))
        intro _
        (first
      | (with_reducible apply ret_i
         · (simp only [Nat.reduceEqDiff, omap, resA, opdA, opdO, T.get_put, ↓reduceIte, Nat.add_assoc, Nat.reduceAdd, Nat.left_eq_add, Nat.add_eq_left, Nat.add_left_cancel_iff, Nat.add_zero, plainN, omap, Option.map_some, Option.bind_some, Nat.le_add_right, Nat.le_refl, loadV, readA, packA]; rfl))
      | (with_reducible apply ret_n
         · (simp only [Nat.reduceEqDiff, omap, resA, opdA, opdO, T.get_put, ↓reduceIte, Nat.add_assoc, Nat.reduceAdd, Nat.left_eq_add, Nat.add_eq_left, Nat.add_left_cancel_iff, Nat.add_zero, plainN, omap, Option.map_some, Option.bind_some, Nat.le_add_right, Nat.le_refl, loadV, readA, packA]; rfl)))
        refine ⟨?_, rfl⟩
        rw [List.drop_eq_nil_of_le (by simp at hlt; omega), List.drop_eq_nil_of_le (by simp at hlt; omega)] at heq
        rw [← eqI_dec, ← heq]; rfl

/-- The set of some nodes. -/
def bitsN (l : List Int) : Nat := l.foldl (fun s x => s ||| 2 ^ x.toNat) 0
theorem bitsN_snoc (l : List Int) (x : Int) : bitsN (l ++ [x]) = bitsN l ||| 2 ^ x.toNat := by unfold bitsN; rw [List.foldl_append]; rfl
theorem bitsN_lt {l : List Int} {n : Nat} (h : ∀ x ∈ l, 0 ≤ x ∧ x < n) : bitsN l < 2 ^ n := by
  unfold bitsN
  have : ∀ (l : List Int) (s : Nat), (∀ x ∈ l, 0 ≤ x ∧ x < n) → s < 2 ^ n → l.foldl (fun s x => s ||| 2 ^ x.toNat) s < 2 ^ n := by
    intro l
    induction l with
    | nil => intro s _ h; exact h
    | cons x l ih =>
      intro s h1 h2
      have := h1 x List.mem_cons_self
      exact ih _ (fun y hy => h1 y (List.mem_cons_of_mem _ hy)) (setBit_lt h2 (by omega))
  exact this l 0 h (Nat.two_pow_pos n)
theorem bitsN_bit (l : List Int) (j : Nat) : (bitsN l).testBit j = decide (∃ x ∈ l, x.toNat = j) := by
  unfold bitsN
  have : ∀ (l : List Int) (s : Nat), (l.foldl (fun s x => s ||| 2 ^ x.toNat) s).testBit j = (s.testBit j || decide (∃ x ∈ l, x.toNat = j)) := by
    intro l
    induction l with
    | nil => intro s; simp
    | cons x l ih =>
      intro s
      rw [List.foldl_cons, ih, setBit, Bool.or_assoc]
      congr 1
      rw [← Bool.decide_or]
      congr 1
      simp [eq_comm]
  rw [this]; simp

theorem f23_spec (l : List Int) (lv : Value) (s : HS) (hl : Sl s 1 lv (l.map encI)) (hll : l.length < 1000000000) (hin : ∀ x ∈ l, 0 ≤ x ∧ x < 62) :
    wpF Tryd.prog s.nx 23 [lv] s (fun v s' => v = .int .i64 (bitsN l) ∧ s' = s) := by
  obtain ⟨b, c, rfl⟩ := hl.shape
  refine wpF_of Tryd.func23 rfl rfl rfl rfl (Nat.le_refl _) ?_
  simp only [paramsA]
  repeat (first
      | with_reducible first | apply ops_end | apply d_end | apply k_seq | apply k_seq_ret | apply k_seq_exit | apply k_block | apply k_block_ret | apply k_block_here | apply c_seq | apply c_block | apply c_region | apply c_skip | apply c_ret | apply c_exit | apply c_loop | apply k_loop_exit | apply k_loop_ret
      | (with_reducible apply k_block_on
         · decide)
      | ((first
          | (with_reducible apply ops_do
             · rfl)
          | (with_reducible apply d_same
             · rfl
             · rfl))
         · (simp only [Nat.reduceEqDiff, opA, val, opdA, opdO, T.get_put, ↓reduceIte, Nat.add_assoc, Nat.reduceAdd, Nat.left_eq_add, Nat.add_eq_left, Nat.add_left_cancel_iff, Nat.add_zero, plainN, omap, Option.map_some, Option.bind_some, Nat.le_add_right, Nat.le_refl, binA, intBinA, loadV, readA, storeV, writeA, fieldAddrA, indexAddrA, lenA, builtinA, newA, unA, packA, if_true, and_self, and_true, true_and, Value.cells, Int.toNat_natCast, decide_true, decide_false, cond_true, cond_false]; rfl)
         · rfl
         try (· rfl))
      | ((first
          | (with_reducible apply d_do
             · rfl
             · rfl)
          | (with_reducible apply d_quiet
             · rfl
             · rfl
             · rfl))
         · (simp only [Nat.reduceEqDiff, opA, val, opdA, opdO, T.get_put, ↓reduceIte, Nat.add_assoc, Nat.reduceAdd, Nat.left_eq_add, Nat.add_eq_left, Nat.add_left_cancel_iff, Nat.add_zero, plainN, omap, Option.map_some, Option.bind_some, Nat.le_add_right, Nat.le_refl, binA, intBinA, loadV, readA, storeV, writeA, fieldAddrA, indexAddrA, lenA, builtinA, newA, unA, packA, if_true, and_self, and_true, true_and, Value.cells, Int.toNat_natCast, decide_true, decide_false, cond_true, cond_false]; rfl)
         first
         | · rfl
         | (· (simp only [Nat.reduceEqDiff, loadBlk, opdA, T.get_put, ↓reduceIte]; rfl)
            · rfl))
      | ((first
          | with_reducible apply ops_skipG
          | (with_reducible apply d_skip
             · rfl))
         · rfl
         · rfl
         · (simp only [Nat.reduceEqDiff, T.get_put, ↓reduceIte]; rfl)
         · (simp only [decide_true, decide_false, bt_tf, bt_ft, bt_tt, bt_ff]; done)
         · rfl)
      | ((first
          | with_reducible apply ops_doG
          | (with_reducible apply d_sameG
             · rfl))
         · rfl
         · rfl
         · (simp only [Nat.reduceEqDiff, T.get_put, ↓reduceIte]; rfl)
         · (simp only [decide_true, decide_false, bt_tf, bt_ft, bt_tt, bt_ff]; done)
         · (simp only [Nat.reduceEqDiff, opA, val, opdA, opdO, T.get_put, ↓reduceIte, Nat.add_assoc, Nat.reduceAdd, Nat.left_eq_add, Nat.add_eq_left, Nat.add_left_cancel_iff, Nat.add_zero, plainN, omap, Option.map_some, Option.bind_some, Nat.le_add_right, Nat.le_refl, binA, intBinA, loadV, readA, storeV, writeA, fieldAddrA, indexAddrA, lenA, builtinA, newA, unA, packA, if_true, and_self, and_true, true_and, Value.cells, Int.toNat_natCast, decide_true, decide_false, cond_true, cond_false]; rfl)
         · rfl
         try (· rfl))
      | (with_reducible apply c_if
         · (simp only [Nat.reduceEqDiff, opdA, opdO, T.get_put, ↓reduceIte, Nat.add_assoc, Nat.reduceAdd, Nat.left_eq_add, Nat.add_eq_left, Nat.add_left_cancel_iff, Nat.add_zero, plainN, omap, Option.map_some, Option.bind_some, Nat.le_add_right, Nat.le_refl, decide_true, decide_false]; rfl)
         with_reducible first | apply if_t | apply if_f))
  refine loop_k (lk' := s.nx) (s0 := s) (fun m f t => t = s ∧ ∃ k : Nat, k + m = l.length ∧ f.get 4 = some (.int .i64 k) ∧ f.get 3 = some (.int .i64 (bitsN (l.take k)))) l.length (Nat.le_refl _) (Nat.le_refl _) ?_ (Ab.refl _ _) ?_
  · exact ⟨rfl, 0, by omega, by simp only [Nat.reduceEqDiff, T.get_put, ↓reduceIte]; rfl, by simp only [Nat.reduceEqDiff, T.get_put, ↓reduceIte]; rfl⟩
  · rintro m f t ⟨rfl, k, hk, h4, h3⟩ hA hF
    (have k0 := hF 0 (by rfl); simp only [Nat.reduceEqDiff, T.get_put, ↓reduceIte] at k0)
    by_cases hlt : (k : Int) < ((l.map encI).length : Int)
    · have hlt' : k < l.length := by simp at hlt; omega
      obtain ⟨id, off, wr, e, cs, rfl, g1, g2, g3, g4⟩ := hl.at (i := k) (x := encI l[k]) (by simp [hlt'])
      have hb : (0 : Int) ≤ (k : Int) ∧ (k : Int) < ((l.map encI).length : Int) := ⟨by omega, hlt⟩
      have hw : IntKind.i64.wrap ((k : Int) + 1) = ((k + 1 : Nat) : Int) := by rw [IntWalk.i64_in _ (by omega)]; rfl
      obtain ⟨q1, q2⟩ := hin l[k] (List.getElem_mem hlt')
      obtain ⟨i, hi⟩ : ∃ i : Nat, l[k] = (i : Int) := ⟨l[k].toNat, by omega⟩
      simp only [encI] at g3
      rw [hi] at g3
      have hsh := shl_i64 (k := i) (by omega)
      have hlt3 : bitsN (l.take k) < 2 ^ 62 := bitsN_lt fun x hx => hin x (List.mem_of_mem_take hx)
      have hor := or_i64 (a := bitsN (l.take k)) (b := 2 ^ i) (by omega) (Nat.pow_lt_pow_right (by decide) (by omega))
      repeat (first
      | with_reducible first | apply ops_end | apply d_end | apply k_seq | apply k_seq_ret | apply k_seq_exit | apply k_block | apply k_block_ret | apply k_block_here | apply c_seq | apply c_block | apply c_region | apply c_skip | apply c_ret | apply c_exit | apply c_loop | apply k_loop_exit | apply k_loop_ret
      | (with_reducible apply k_block_on
         · decide)
      | ((first
          | (with_reducible apply ops_do
             · rfl)
          | (with_reducible apply d_same
             · rfl
             · rfl))
         · (simp only [Nat.reduceEqDiff, opA, val, opdA, opdO, T.get_put, ↓reduceIte, Nat.add_assoc, Nat.reduceAdd, Nat.left_eq_add, Nat.add_eq_left, Nat.add_left_cancel_iff, Nat.add_zero, plainN, omap, Option.map_some, Option.bind_some, Nat.le_add_right, Nat.le_refl, binA, intBinA, loadV, readA, storeV, writeA, fieldAddrA, indexAddrA, lenA, builtinA, newA, unA, packA, if_true, and_self, and_true, true_and, Value.cells, Int.toNat_natCast, decide_true, decide_false, cond_true, cond_false, h4, h3, k0, un35, hlt, sz3, ty3, hb, g1, g3, hsh, hor, hw]; rfl)
         · rfl
         try (· rfl))
      | ((first
          | (with_reducible apply d_do
             · rfl
             · rfl)
          | (with_reducible apply d_quiet
             · rfl
             · rfl
             · rfl))
         · (simp only [Nat.reduceEqDiff, opA, val, opdA, opdO, T.get_put, ↓reduceIte, Nat.add_assoc, Nat.reduceAdd, Nat.left_eq_add, Nat.add_eq_left, Nat.add_left_cancel_iff, Nat.add_zero, plainN, omap, Option.map_some, Option.bind_some, Nat.le_add_right, Nat.le_refl, binA, intBinA, loadV, readA, storeV, writeA, fieldAddrA, indexAddrA, lenA, builtinA, newA, unA, packA, if_true, and_self, and_true, true_and, Value.cells, Int.toNat_natCast, decide_true, decide_false, cond_true, cond_false, h4, h3, k0, un35, hlt, sz3, ty3, hb, g1, g3, hsh, hor, hw]; rfl)
         first
         | · rfl
         | (· (simp only [Nat.reduceEqDiff, loadBlk, opdA, T.get_put, ↓reduceIte, h4, h3, k0, un35, hlt, sz3, ty3, hb, g1, g3, hsh, hor, hw]; rfl)
            · rfl))
      | ((first
          | with_reducible apply ops_skipG
          | (with_reducible apply d_skip
             · rfl))
         · rfl
         · rfl
         · (simp only [Nat.reduceEqDiff, T.get_put, ↓reduceIte, h4, h3, k0, un35, hlt, sz3, ty3, hb, g1, g3, hsh, hor, hw]; rfl)
         · (simp only [decide_true, decide_false, h4, h3, k0, un35, hlt, sz3, ty3, hb, g1, g3, hsh, hor, hw, bt_tf, bt_ft, bt_tt, bt_ff]; done)
         · rfl)
      | ((first
          | with_reducible apply ops_doG
          | (with_reducible apply d_sameG
             · rfl))
         · rfl
         · rfl
         · (simp only [Nat.reduceEqDiff, T.get_put, ↓reduceIte, h4, h3, k0, un35, hlt, sz3, ty3, hb, g1, g3, hsh, hor, hw]; rfl)
         · (simp only [decide_true, decide_false, h4, h3, k0, un35, hlt, sz3, ty3, hb, g1, g3, hsh, hor, hw, bt_tf, bt_ft, bt_tt, bt_ff]; done)
         · (simp only [Nat.reduceEqDiff, opA, val, opdA, opdO, T.get_put, ↓reduceIte, Nat.add_assoc, Nat.reduceAdd, Nat.left_eq_add, Nat.add_eq_left, Nat.add_left_cancel_iff, Nat.add_zero, plainN, omap, Option.map_some, Option.bind_some, Nat.le_add_right, Nat.le_refl, binA, intBinA, loadV, readA, storeV, writeA, fieldAddrA, indexAddrA, lenA, builtinA, newA, unA, packA, if_true, and_self, and_true, true_and, Value.cells, Int.toNat_natCast, decide_true, decide_false, cond_true, cond_false, h4, h3, k0, un35, hlt, sz3, ty3, hb, g1, g3, hsh, hor, hw]; rfl)
         · rfl
         try (· rfl))
      | (with_reducible apply c_if
         · (simp only [Nat.reduceEqDiff, opdA, opdO, T.get_put, ↓reduceIte, Nat.add_assoc, Nat.reduceAdd, Nat.left_eq_add, Nat.add_eq_left, Nat.add_left_cancel_iff, Nat.add_zero, plainN, omap, Option.map_some, Option.bind_some, Nat.le_add_right, Nat.le_refl, decide_true, decide_false, h4, h3, k0, un35, hlt, sz3, ty3, hb, g1, g3, hsh, hor, hw]; rfl)
         with_reducible first | apply if_t | apply if_f))
      intro _ _
      refine k_loop_next (m' := m - 1) (by omega) ⟨rfl, k + 1, by omega, by simp only [Nat.reduceEqDiff, T.get_put, ↓reduceIte], ?_⟩
      simp only [Nat.reduceEqDiff, T.get_put, ↓reduceIte]
      rw [List.take_succ_eq_append_getElem hlt', bitsN_snoc, hi, Int.toNat_natCast]
    · repeat (first
      | with_reducible first | apply ops_end | apply d_end | apply k_seq | apply k_seq_ret | apply k_seq_exit | apply k_block | apply k_block_ret | apply k_block_here | apply c_seq | apply c_block | apply c_region | apply c_skip | apply c_ret | apply c_exit | apply c_loop | apply k_loop_exit | apply k_loop_ret
      | (with_reducible apply k_block_on
         · decide)
      | ((first
          | (with_reducible apply ops_do
             · rfl)
          | (with_reducible apply d_same
             · rfl
             · rfl))
         · (simp only [Nat.reduceEqDiff, opA, val, opdA, opdO, T.get_put, ↓reduceIte, Nat.add_assoc, Nat.reduceAdd, Nat.left_eq_add, Nat.add_eq_left, Nat.add_left_cancel_iff, Nat.add_zero, plainN, omap, Option.map_some, Option.bind_some, Nat.le_add_right, Nat.le_refl, binA, intBinA, loadV, readA, storeV, writeA, fieldAddrA, indexAddrA, lenA, builtinA, newA, unA, packA, if_true, and_self, and_true, true_and, Value.cells, Int.toNat_natCast, decide_true, decide_false, cond_true, cond_false, h4, k0, un35, hlt]; rfl)
         · rfl
         try (· rfl))
      | ((first
          | (with_reducible apply d_do
             · rfl
             · rfl)
          | (with_reducible apply d_quiet
             · rfl
             · rfl
             · rfl))
         · (simp only [Nat.reduceEqDiff, opA, val, opdA, opdO, T.get_put, ↓reduceIte, Nat.add_assoc, Nat.reduceAdd, Nat.left_eq_add, Nat.add_eq_left, Nat.add_left_cancel_iff, Nat.add_zero, plainN, omap, Option.map_some, Option.bind_some, Nat.le_add_right, Nat.le_refl, binA, intBinA, loadV, readA, storeV, writeA, fieldAddrA, indexAddrA, lenA, builtinA, newA, unA, packA, if_true, and_self, and_true, true_and, Value.cells, Int.toNat_natCast, decide_true, decide_false, cond_true, cond_false, h4, k0, un35, hlt]; rfl)
         first
         | · rfl
         | (· (simp only [Nat.reduceEqDiff, loadBlk, opdA, T.get_put, ↓reduceIte, h4, k0, un35, hlt]; rfl)
            · rfl))
      | ((first
          | with_reducible apply ops_skipG
          | (with_reducible apply d_skip
             · rfl))
         · rfl
         · rfl
         · (simp only [Nat.reduceEqDiff, T.get_put, ↓reduceIte, h4, k0, un35, hlt]; rfl)
         · (simp only [decide_true, decide_false, h4, k0, un35, hlt, bt_tf, bt_ft, bt_tt, bt_ff]; done)
         · rfl)
      | ((first
          | with_reducible apply ops_doG
          | (with_reducible apply d_sameG
             · rfl))
         · rfl
         · rfl
         · (simp only [Nat.reduceEqDiff, T.get_put, ↓reduceIte, h4, k0, un35, hlt]; rfl)
         · (simp only [decide_true, decide_false, h4, k0, un35, hlt, bt_tf, bt_ft, bt_tt, bt_ff]; done)
         · (simp only [Nat.reduceEqDiff, opA, val, opdA, opdO, T.get_put, ↓reduceIte, Nat.add_assoc, Nat.reduceAdd, Nat.left_eq_add, Nat.add_eq_left, Nat.add_left_cancel_iff, Nat.add_zero, plainN, omap, Option.map_some, Option.bind_some, Nat.le_add_right, Nat.le_refl, binA, intBinA, loadV, readA, storeV, writeA, fieldAddrA, indexAddrA, lenA, builtinA, newA, unA, packA, if_true, and_self, and_true, true_and, Value.cells, Int.toNat_natCast, decide_true, decide_false, cond_true, cond_false, h4, k0, un35, hlt]; rfl)
         · rfl
         try (· rfl))
      | (with_reducible apply c_if
         · (simp only [Nat.reduceEqDiff, opdA, opdO, T.get_put, ↓reduceIte, Nat.add_assoc, Nat.reduceAdd, Nat.left_eq_add, Nat.add_eq_left, Nat.add_left_cancel_iff, Nat.add_zero, plainN, omap, Option.map_some, Option.bind_some, Nat.le_add_right, Nat.le_refl, decide_true, decide_false, h4, k0, un35, hlt]; rfl)
         with_reducible first | apply if_t | apply if_f))
      intro _ _
      repeat (first
      | with_reducible first | apply ops_end | apply d_end | apply k_seq | apply k_seq_ret | apply k_seq_exit | apply k_block | apply k_block_ret | apply k_block_here | apply c_seq | apply c_block | apply c_region | apply c_skip | apply c_ret | apply c_exit | apply c_loop | apply k_loop_exit | apply k_loop_ret
      | (with_reducible apply k_block_on
         · decide)
      | ((first
          | (with_reducible apply ops_do
             · rfl)
          | (with_reducible apply d_same
             · rfl
             · rfl))
         · (simp only [Nat.reduceEqDiff, opA, val, opdA, opdO, T.get_put, ↓reduceIte, Nat.add_assoc, Nat.reduceAdd, Nat.left_eq_add, Nat.add_eq_left, Nat.add_left_cancel_iff, Nat.add_zero, plainN, omap, Option.map_some, Option.bind_some, Nat.le_add_right, Nat.le_refl, binA, intBinA, loadV, readA, storeV, writeA, fieldAddrA, indexAddrA, lenA, builtinA, newA, unA, packA, if_true, and_self, and_true, true_and, Value.cells, Int.toNat_natCast, decide_true, decide_false, cond_true, cond_false, h3]; rfl)
         · rfl
         try (· rfl))
      | ((first
          | (with_reducible apply d_do
             · rfl
             · rfl)
          | (with_reducible apply d_quiet
             · rfl
             · rfl
             · rfl))
         · (simp only [Nat.reduceEqDiff, opA, val, opdA, opdO, T.get_put, ↓reduceIte, Nat.add_assoc, Nat.reduceAdd, Nat.left_eq_add, Nat.add_eq_left, Nat.add_left_cancel_iff, Nat.add_zero, plainN, omap, Option.map_some, Option.bind_some, Nat.le_add_right, Nat.le_refl, binA, intBinA, loadV, readA, storeV, writeA, fieldAddrA, indexAddrA, lenA, builtinA, newA, unA, packA, if_true, and_self, and_true, true_and, Value.cells, Int.toNat_natCast, decide_true, decide_false, cond_true, cond_false, h3]; rfl)
         first
         | · rfl
         | (· (simp only [Nat.reduceEqDiff, loadBlk, opdA, T.get_put, ↓reduceIte, h3]; rfl)
            · rfl))
      | ((first
          | with_reducible apply ops_skipG
          | (with_reducible apply d_skip
             · rfl))
         · rfl
         · rfl
         · (simp only [Nat.reduceEqDiff, T.get_put, ↓reduceIte, h3]; rfl)
         · (simp only [decide_true, decide_false, h3, bt_tf, bt_ft, bt_tt, bt_ff]; done)
         · rfl)
      | ((first
          | with_reducible apply ops_doG
          | (with_reducible apply d_sameG
             · rfl))
         · rfl
         · rfl
         · (simp only [Nat.reduceEqDiff, T.get_put, ↓reduceIte, h3]; rfl)
         · (simp only [decide_true, decide_false, h3, bt_tf, bt_ft, bt_tt, bt_ff]; done)
         · (simp only [Nat.reduceEqDiff, opA, val, opdA, opdO, T.get_put, ↓reduceIte, Nat.add_assoc, Nat.reduceAdd, Nat.left_eq_add, Nat.add_eq_left, Nat.add_left_cancel_iff, Nat.add_zero, plainN, omap, Option.map_some, Option.bind_some, Nat.le_add_right, Nat.le_refl, binA, intBinA, loadV, readA, storeV, writeA, fieldAddrA, indexAddrA, lenA, builtinA, newA, unA, packA, if_true, and_self, and_true, true_and, Value.cells, Int.toNat_natCast, decide_true, decide_false, cond_true, cond_false, h3]; rfl)
         · rfl
         try (· rfl))
      | (with_reducible apply c_if
         · (simp only [Nat.reduceEqDiff, opdA, opdO, T.get_put, ↓reduceIte, Nat.add_assoc, Nat.reduceAdd, Nat.left_eq_add, Nat.add_eq_left, Nat.add_left_cancel_iff, Nat.add_zero, plainN, omap, Option.map_some, Option.bind_some, Nat.le_add_right, Nat.le_refl, decide_true, decide_false, h3]; rfl)
         with_reducible first | apply if_t | apply if_f))
      intro _
      (first
      | (with_reducible apply ret_i
         · (simp only [Nat.reduceEqDiff, omap, resA, opdA, opdO, T.get_put, ↓reduceIte, Nat.add_assoc, Nat.reduceAdd, Nat.left_eq_add, Nat.add_eq_left, Nat.add_left_cancel_iff, Nat.add_zero, plainN, omap, Option.map_some, Option.bind_some, Nat.le_add_right, Nat.le_refl, loadV, readA, packA]; rfl))
      | (with_reducible apply ret_n
         · (simp only [Nat.reduceEqDiff, omap, resA, opdA, opdO, T.get_put, ↓reduceIte, Nat.add_assoc, Nat.reduceAdd, Nat.left_eq_add, Nat.add_eq_left, Nat.add_left_cancel_iff, Nat.add_zero, plainN, omap, Option.map_some, Option.bind_some, Nat.le_add_right, Nat.le_refl, loadV, readA, packA]; rfl)))
      refine ⟨?_, rfl⟩
      rw [List.take_of_length_le (by simp at hlt; omega)]; rfl
end Go.Ev
