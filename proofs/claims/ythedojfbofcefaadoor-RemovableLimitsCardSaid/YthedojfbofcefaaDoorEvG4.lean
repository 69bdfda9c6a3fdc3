import Derived.Test.YthedojfbofcefaaDoorEvG1
/- graph.beyond, graph.Check. -/
namespace Go.Ev
open Go Go.Proofs
set_option linter.unusedSimpArgs false
set_option linter.unusedVariables false
set_option maxRecDepth 100000
set_option maxHeartbeats 4000000
attribute [local irreducible] wpOps wpC wpD wpF wpLoop wpCall seqK blockK loopK retK T.put T.get T.setF

def beyondB (n k : Int) : Bool := decide (k < 0) || decide (k ≥ n)

theorem f54_spec [Sorts Tryd.prog] (n k : Int) (s : HS) : wpF Tryd.prog s.nx 54 [.int .i64 n, .int .i64 k] s (fun v s' => v = .bool (beyondB n k) ∧ s' = s) := by
  refine wpF_of Tryd.func54 rfl rfl rfl rfl (Nat.le_refl _) ?_
  simp only [paramsA]
  by_cases h : k < 0
  · repeat (first
  | with_reducible first | apply ops_end | apply d_end | apply k_seq | apply k_seq_ret | apply k_seq_exit | apply k_block | apply k_block_ret | apply k_block_here | apply c_seq | apply c_block | apply c_region | apply c_skip | apply c_ret | apply c_exit | apply c_loop | apply k_loop_exit | apply k_loop_ret | apply if_t | apply if_f
  | (with_reducible apply k_block_on
     · decide)
  | ((with_reducible first | apply xOp | apply xDr | apply xIf); rfl; (simp only [Nat.reduceEqDiff, Nat.reduceAdd, ↓reduceIte, xBB, stG, opA, val, opdA, opdO, plainN, omap, binA, intBinA, loadV, readA, storeV, writeA, fieldAddrA, indexAddrA, lenA, builtinA, newA, unA, packA, Value.cells, h]; rfl); first | rfl | exact ⟨rfl, rfl, rfl⟩))
    intro _
    ((with_reducible first | apply ret_i | apply ret_n); (simp only [Nat.reduceEqDiff, Nat.reduceAdd, ↓reduceIte, xBB, resA, opdA, opdO, plainN, omap, val, loadV, readA, packA]; rfl))
    exact ⟨by simp [packR, beyondB, h], rfl⟩
  · repeat (first
  | with_reducible first | apply ops_end | apply d_end | apply k_seq | apply k_seq_ret | apply k_seq_exit | apply k_block | apply k_block_ret | apply k_block_here | apply c_seq | apply c_block | apply c_region | apply c_skip | apply c_ret | apply c_exit | apply c_loop | apply k_loop_exit | apply k_loop_ret | apply if_t | apply if_f
  | (with_reducible apply k_block_on
     · decide)
  | ((with_reducible first | apply xOp | apply xDr | apply xIf); rfl; (simp only [Nat.reduceEqDiff, Nat.reduceAdd, ↓reduceIte, xBB, stG, opA, val, opdA, opdO, plainN, omap, binA, intBinA, loadV, readA, storeV, writeA, fieldAddrA, indexAddrA, lenA, builtinA, newA, unA, packA, Value.cells, h]; rfl); first | rfl | exact ⟨rfl, rfl, rfl⟩))
    intro _
    ((with_reducible first | apply ret_i | apply ret_n); (simp only [Nat.reduceEqDiff, Nat.reduceAdd, ↓reduceIte, xBB, resA, opdA, opdO, plainN, omap, val, loadV, readA, packA]; rfl))
    exact ⟨by simp [packR, beyondB, h], rfl⟩

def incr : List (Int × Int) → Bool
  | x :: y :: l => decide (ordE x y < 0) && incr (y :: l)
  | _ => true
def outside (n : Int) (e : Int × Int) : Bool := beyondB n e.1 || beyondB n e.2
/-- What Check returns. -/
def checkR (n : Int) (es : List (Int × Int)) : Int :=
  if n < 0 ∨ n > 64 then 2 else if (es.length : Int) > n * n then 6 else if es.any (outside n) then 2 else if incr es then 0 else 8

def vG (n : Int) (ev : Value) : Value := .agg #[.int .i64 n, ev]

theorem f36_spec [Sorts Tryd.prog] (n : Int) (es : List (Int × Int)) (ev : Value) (s : HS) (hs : Sl s 2 ev (es.map encE)) : wpF Tryd.prog s.nx 36 [vG n ev] s (fun v s' => v = .int .i64 (checkR n es)) := by
  obtain ⟨b, c, rfl⟩ := hs.shape
  refine wpF_of Tryd.func36 rfl rfl rfl rfl (Nat.le_refl _) ?_
  simp only [paramsA, vG]
  by_cases h1 : n < 0
  · repeat (first
  | with_reducible first | apply ops_end | apply d_end | apply k_seq | apply k_seq_ret | apply k_seq_exit | apply k_block | apply k_block_ret | apply k_block_here | apply c_seq | apply c_block | apply c_region | apply c_skip | apply c_ret | apply c_exit | apply c_loop | apply k_loop_exit | apply k_loop_ret | apply if_t | apply if_f
  | (with_reducible apply k_block_on
     · decide)
  | ((with_reducible first | apply xOp | apply xDr | apply xIf); rfl; (simp only [Nat.reduceEqDiff, Nat.reduceAdd, ↓reduceIte, xBB, stG, opA, val, opdA, opdO, plainN, omap, binA, intBinA, loadV, readA, storeV, writeA, fieldAddrA, indexAddrA, lenA, builtinA, newA, unA, packA, Value.cells, ty28, sz28, fd28_0, fd28_1, ty3, ty26, un26, sz58, h1]; rfl); first | rfl | exact ⟨rfl, rfl, rfl⟩))
    intro _
    ((with_reducible first | apply ret_i | apply ret_n); (simp only [Nat.reduceEqDiff, Nat.reduceAdd, ↓reduceIte, xBB, resA, opdA, opdO, plainN, omap, val, loadV, readA, packA]; rfl))
    simp [packR, checkR, h1]
  by_cases h2 : n > 64
  · repeat (first
  | with_reducible first | apply ops_end | apply d_end | apply k_seq | apply k_seq_ret | apply k_seq_exit | apply k_block | apply k_block_ret | apply k_block_here | apply c_seq | apply c_block | apply c_region | apply c_skip | apply c_ret | apply c_exit | apply c_loop | apply k_loop_exit | apply k_loop_ret | apply if_t | apply if_f
  | (with_reducible apply k_block_on
     · decide)
  | ((with_reducible first | apply xOp | apply xDr | apply xIf); rfl; (simp only [Nat.reduceEqDiff, Nat.reduceAdd, ↓reduceIte, xBB, stG, opA, val, opdA, opdO, plainN, omap, binA, intBinA, loadV, readA, storeV, writeA, fieldAddrA, indexAddrA, lenA, builtinA, newA, unA, packA, Value.cells, ty28, sz28, fd28_0, fd28_1, ty3, ty26, un26, sz58, h1, h2]; rfl); first | rfl | exact ⟨rfl, rfl, rfl⟩))
    intro _
    ((with_reducible first | apply ret_i | apply ret_n); (simp only [Nat.reduceEqDiff, Nat.reduceAdd, ↓reduceIte, xBB, resA, opdA, opdO, plainN, omap, val, loadV, readA, packA]; rfl))
    simp [packR, checkR, h1, h2]
  have hw : IntKind.i64.wrap (n * n) = n * n := by
    refine IntWalk.i64_in _ ⟨?_, ?_⟩
    · have := Int.mul_nonneg (show 0 ≤ n by omega) (show 0 ≤ n by omega); omega
    · have := Int.mul_le_mul (show n ≤ 64 by omega) (show n ≤ 64 by omega) (show 0 ≤ n by omega) (show (0 : Int) ≤ 64 by omega); omega
  have hnn : n * n ≤ 4096 := by
    have := Int.mul_le_mul (show n ≤ 64 by omega) (show n ≤ 64 by omega) (show 0 ≤ n by omega) (show (0 : Int) ≤ 64 by omega); omega
  by_cases h3 : ((es.map encE).length : Int) > n * n
  · repeat (first
  | with_reducible first | apply ops_end | apply d_end | apply k_seq | apply k_seq_ret | apply k_seq_exit | apply k_block | apply k_block_ret | apply k_block_here | apply c_seq | apply c_block | apply c_region | apply c_skip | apply c_ret | apply c_exit | apply c_loop | apply k_loop_exit | apply k_loop_ret | apply if_t | apply if_f
  | (with_reducible apply k_block_on
     · decide)
  | ((with_reducible first | apply xOp | apply xDr | apply xIf); rfl; (simp only [Nat.reduceEqDiff, Nat.reduceAdd, ↓reduceIte, xBB, stG, opA, val, opdA, opdO, plainN, omap, binA, intBinA, loadV, readA, storeV, writeA, fieldAddrA, indexAddrA, lenA, builtinA, newA, unA, packA, Value.cells, ty28, sz28, fd28_0, fd28_1, ty3, ty26, un26, sz58, h1, h2, hw, h3]; rfl); first | rfl | exact ⟨rfl, rfl, rfl⟩))
    intro _
    ((with_reducible first | apply ret_i | apply ret_n); (simp only [Nat.reduceEqDiff, Nat.reduceAdd, ↓reduceIte, xBB, resA, opdA, opdO, plainN, omap, val, loadV, readA, packA]; rfl))
    simp at h3
    simp [packR, checkR, h1, h2, h3]
  have hlen : es.length ≤ 4096 := by simp at h3; omega
  have h3' : ¬ (es.length : Int) > n * n := by simpa using h3
  repeat (first
  | with_reducible first | apply ops_end | apply d_end | apply k_seq | apply k_seq_ret | apply k_seq_exit | apply k_block | apply k_block_ret | apply k_block_here | apply c_seq | apply c_block | apply c_region | apply c_skip | apply c_ret | apply c_exit | apply c_loop | apply k_loop_exit | apply k_loop_ret | apply if_t | apply if_f
  | (with_reducible apply k_block_on
     · decide)
  | ((with_reducible first | apply xOp | apply xDr | apply xIf); rfl; (simp only [Nat.reduceEqDiff, Nat.reduceAdd, ↓reduceIte, xBB, stG, opA, val, opdA, opdO, plainN, omap, binA, intBinA, loadV, readA, storeV, writeA, fieldAddrA, indexAddrA, lenA, builtinA, newA, unA, packA, Value.cells, ty28, sz28, fd28_0, fd28_1, ty3, ty26, un26, sz58, h1, h2, hw, h3]; rfl); first | rfl | exact ⟨rfl, rfl, rfl⟩))
  refine loop_k (lk' := s.nx + 1) (s0 := ⟨_, s.nx + 1⟩) (fun m f t => ∃ k : Nat, k + m = es.length ∧ (es.drop k).any (outside n) = es.any (outside n) ∧ f.get 28 = some (.int .i64 k)) es.length (Nat.le_succ _) (Nat.le_refl _) ?_ (Ab.refl _ _) ?_
  · exact ⟨0, by omega, rfl, by simp only [Nat.reduceEqDiff, T.get_put, ↓reduceIte]; rfl⟩
  · rintro m f t ⟨k, hk, hany, h28⟩ hA hF
    (have k26 := hF 26 (by rfl); simp only [Nat.reduceEqDiff, T.get_put, ↓reduceIte] at k26; have k27 := hF 27 (by rfl); simp only [Nat.reduceEqDiff, T.get_put, ↓reduceIte] at k27; have k1 := hF 1 (by rfl); simp only [Nat.reduceEqDiff, T.get_put, ↓reduceIte] at k1)
    have hbox := hA.get (Nat.le_refl _) (Nat.lt_succ_self s.nx)
    rw [T.get_put_eq] at hbox
    by_cases hlt : (k : Int) < ((es.map encE).length : Int)
    · have hlt' : k < es.length := by simp at hlt; omega
      obtain ⟨id, off, wr, e, cs, rfl, g1, g2, g3, g4⟩ := hs.at (i := k) (x := encE es[k]) (by simp [hlt'])
      have g1' : t.hp.get id = some (.cells wr e cs) := by rw [hA.get (Nat.le_refl _) (Nat.lt_succ_of_lt g2), T.get_put_ne _ _ _ (by omega)]; exact g1
      have hb : (0 : Int) ≤ (k : Int) ∧ (k : Int) < ((es.map encE).length : Int) := ⟨by omega, hlt⟩
      have hnx : s.nx < t.nx := hA.nx
      have hne1 : ¬ s.nx = t.nx := by omega
      have hne2 : ¬ id = t.nx := by omega
      have hle : s.nx ≤ t.nx := by omega
      have hle2 : s.nx + 1 ≤ t.nx := by omega
      simp only [encE] at g3
      have hw2 : IntKind.i64.wrap ((k : Int) + 1) = ((k + 1 : Nat) : Int) := by rw [IntWalk.i64_in _ (by omega)]; rfl
      repeat (first
  | with_reducible first | apply ops_end | apply d_end | apply k_seq | apply k_seq_ret | apply k_seq_exit | apply k_block | apply k_block_ret | apply k_block_here | apply c_seq | apply c_block | apply c_region | apply c_skip | apply c_ret | apply c_exit | apply c_loop | apply k_loop_exit | apply k_loop_ret | apply if_t | apply if_f
  | (with_reducible apply k_block_on
     · decide)
  | ((with_reducible first | apply xOp | apply xDr | apply xIf); rfl; (simp only [Nat.reduceEqDiff, Nat.reduceAdd, ↓reduceIte, xBB, stG, opA, val, opdA, opdO, plainN, omap, binA, intBinA, loadV, readA, storeV, writeA, fieldAddrA, indexAddrA, lenA, builtinA, newA, unA, packA, Value.cells, h28, k27, k26, k1, hlt, un26, sz58, ty58, zr58, hb, g1', g3, hbox, hne1, hne2, hle, hle2, ty3, fd28_0, fd58_0, fd58_1]; rfl); first | rfl | exact ⟨rfl, rfl, rfl⟩))
      ((with_reducible first | apply xCa | apply xCd); rfl; (simp only [Nat.reduceEqDiff, Nat.reduceAdd, ↓reduceIte, xBB, stB, opdA, opdO, plainN, omap, val, Value.cells]; exact ⟨rfl, rfl⟩); try rfl)
      apply call_fn
      refine (f54_spec n es[k].1 _).use (by first | exact Nat.le_refl _ | (simp only [cond_true, cond_false]; omega) | omega | (dsimp only; omega)) (by first | exact Nat.le_refl _ | (simp only [cond_true, cond_false]; omega) | omega | (dsimp only; omega)) fun v s1 hv _ => ?_
      obtain ⟨rfl, rfl⟩ := hv
      refine opt_of rfl ?_
      by_cases hb1 : beyondB n es[k].1 = true
      · repeat (first
  | with_reducible first | apply ops_end | apply d_end | apply k_seq | apply k_seq_ret | apply k_seq_exit | apply k_block | apply k_block_ret | apply k_block_here | apply c_seq | apply c_block | apply c_region | apply c_skip | apply c_ret | apply c_exit | apply c_loop | apply k_loop_exit | apply k_loop_ret | apply if_t | apply if_f
  | (with_reducible apply k_block_on
     · decide)
  | ((with_reducible first | apply xOp | apply xDr | apply xIf); rfl; (simp only [Nat.reduceEqDiff, Nat.reduceAdd, ↓reduceIte, xBB, stG, opA, val, opdA, opdO, plainN, omap, binA, intBinA, loadV, readA, storeV, writeA, fieldAddrA, indexAddrA, lenA, builtinA, newA, unA, packA, Value.cells, hb1]; rfl); first | rfl | exact ⟨rfl, rfl, rfl⟩))
        intro _ _
        repeat (first
  | with_reducible first | apply ops_end | apply d_end | apply k_seq | apply k_seq_ret | apply k_seq_exit | apply k_block | apply k_block_ret | apply k_block_here | apply c_seq | apply c_block | apply c_region | apply c_skip | apply c_ret | apply c_exit | apply c_loop | apply k_loop_exit | apply k_loop_ret | apply if_t | apply if_f
  | (with_reducible apply k_block_on
     · decide)
  | ((with_reducible first | apply xOp | apply xDr | apply xIf); rfl; (simp only [Nat.reduceEqDiff, Nat.reduceAdd, ↓reduceIte, xBB, stG, opA, val, opdA, opdO, plainN, omap, binA, intBinA, loadV, readA, storeV, writeA, fieldAddrA, indexAddrA, lenA, builtinA, newA, unA, packA, Value.cells]; rfl); first | rfl | exact ⟨rfl, rfl, rfl⟩))
        intro _
        ((with_reducible first | apply ret_i | apply ret_n); (simp only [Nat.reduceEqDiff, Nat.reduceAdd, ↓reduceIte, xBB, resA, opdA, opdO, plainN, omap, val, loadV, readA, packA]; rfl))
        rw [List.drop_eq_getElem_cons hlt', List.any_cons] at hany
        simp only [outside, hb1, Bool.true_or] at hany
        simp only [packR, checkR, show ¬ (n < 0 ∨ n > 64) by omega, h3', ← hany, if_false, if_true]
      · simp only [Bool.not_eq_true] at hb1
        repeat (first
  | with_reducible first | apply ops_end | apply d_end | apply k_seq | apply k_seq_ret | apply k_seq_exit | apply k_block | apply k_block_ret | apply k_block_here | apply c_seq | apply c_block | apply c_region | apply c_skip | apply c_ret | apply c_exit | apply c_loop | apply k_loop_exit | apply k_loop_ret | apply if_t | apply if_f
  | (with_reducible apply k_block_on
     · decide)
  | ((with_reducible first | apply xOp | apply xDr | apply xIf); rfl; (simp only [Nat.reduceEqDiff, Nat.reduceAdd, ↓reduceIte, xBB, stG, opA, val, opdA, opdO, plainN, omap, binA, intBinA, loadV, readA, storeV, writeA, fieldAddrA, indexAddrA, lenA, builtinA, newA, unA, packA, Value.cells, hb1, k1, hbox, hne1, hne2, ty3, fd28_0, fd58_1]; rfl); first | rfl | exact ⟨rfl, rfl, rfl⟩))
        ((with_reducible first | apply xCa | apply xCd); rfl; (simp only [Nat.reduceEqDiff, Nat.reduceAdd, ↓reduceIte, xBB, stB, opdA, opdO, plainN, omap, val, Value.cells, hb1]; exact ⟨rfl, rfl⟩); try rfl)
        apply call_fn
        refine (f54_spec n es[k].2 _).use (by first | exact Nat.le_refl _ | (simp only [cond_true, cond_false]; omega) | omega | (dsimp only; omega)) (by first | exact Nat.le_refl _ | (simp only [cond_true, cond_false]; omega) | omega | (dsimp only; omega)) fun v s1 hv _ => ?_
        obtain ⟨rfl, rfl⟩ := hv
        refine opt_of rfl ?_
        by_cases hb2 : beyondB n es[k].2 = true
        · repeat (first
  | with_reducible first | apply ops_end | apply d_end | apply k_seq | apply k_seq_ret | apply k_seq_exit | apply k_block | apply k_block_ret | apply k_block_here | apply c_seq | apply c_block | apply c_region | apply c_skip | apply c_ret | apply c_exit | apply c_loop | apply k_loop_exit | apply k_loop_ret | apply if_t | apply if_f
  | (with_reducible apply k_block_on
     · decide)
  | ((with_reducible first | apply xOp | apply xDr | apply xIf); rfl; (simp only [Nat.reduceEqDiff, Nat.reduceAdd, ↓reduceIte, xBB, stG, opA, val, opdA, opdO, plainN, omap, binA, intBinA, loadV, readA, storeV, writeA, fieldAddrA, indexAddrA, lenA, builtinA, newA, unA, packA, Value.cells, hb2, hb1]; rfl); first | rfl | exact ⟨rfl, rfl, rfl⟩))
          intro _ _
          repeat (first
  | with_reducible first | apply ops_end | apply d_end | apply k_seq | apply k_seq_ret | apply k_seq_exit | apply k_block | apply k_block_ret | apply k_block_here | apply c_seq | apply c_block | apply c_region | apply c_skip | apply c_ret | apply c_exit | apply c_loop | apply k_loop_exit | apply k_loop_ret | apply if_t | apply if_f
  | (with_reducible apply k_block_on
     · decide)
  | ((with_reducible first | apply xOp | apply xDr | apply xIf); rfl; (simp only [Nat.reduceEqDiff, Nat.reduceAdd, ↓reduceIte, xBB, stG, opA, val, opdA, opdO, plainN, omap, binA, intBinA, loadV, readA, storeV, writeA, fieldAddrA, indexAddrA, lenA, builtinA, newA, unA, packA, Value.cells]; rfl); first | rfl | exact ⟨rfl, rfl, rfl⟩))
          intro _
          ((with_reducible first | apply ret_i | apply ret_n); (simp only [Nat.reduceEqDiff, Nat.reduceAdd, ↓reduceIte, xBB, resA, opdA, opdO, plainN, omap, val, loadV, readA, packA]; rfl))
          rw [List.drop_eq_getElem_cons hlt', List.any_cons] at hany
          simp only [outside, hb1, hb2, Bool.true_or, Bool.or_true] at hany
          simp only [packR, checkR, show ¬ (n < 0 ∨ n > 64) by omega, h3', ← hany, if_false, if_true]
        · simp only [Bool.not_eq_true] at hb2
          repeat (first
  | with_reducible first | apply ops_end | apply d_end | apply k_seq | apply k_seq_ret | apply k_seq_exit | apply k_block | apply k_block_ret | apply k_block_here | apply c_seq | apply c_block | apply c_region | apply c_skip | apply c_ret | apply c_exit | apply c_loop | apply k_loop_exit | apply k_loop_ret | apply if_t | apply if_f
  | (with_reducible apply k_block_on
     · decide)
  | ((with_reducible first | apply xOp | apply xDr | apply xIf); rfl; (simp only [Nat.reduceEqDiff, Nat.reduceAdd, ↓reduceIte, xBB, stG, opA, val, opdA, opdO, plainN, omap, binA, intBinA, loadV, readA, storeV, writeA, fieldAddrA, indexAddrA, lenA, builtinA, newA, unA, packA, Value.cells, hb2, hb1, h28, hw2]; rfl); first | rfl | exact ⟨rfl, rfl, rfl⟩))
          intro _ _
          refine k_loop_next (m' := m - 1) (by omega) ⟨k + 1, by omega, ?_, ?_⟩
          · rw [List.drop_eq_getElem_cons hlt', List.any_cons] at hany
            rw [← hany]
            show _ = (outside n es[k] || _)
            simp only [outside, hb1, hb2, Bool.false_or]
          · simp only [Nat.reduceEqDiff, T.get_put, ↓reduceIte]
    · have hno : es.any (outside n) = false := by
        rw [← hany, List.drop_eq_nil_of_le (by simp at hlt; omega)]; rfl
      repeat (first
  | with_reducible first | apply ops_end | apply d_end | apply k_seq | apply k_seq_ret | apply k_seq_exit | apply k_block | apply k_block_ret | apply k_block_here | apply c_seq | apply c_block | apply c_region | apply c_skip | apply c_ret | apply c_exit | apply c_loop | apply k_loop_exit | apply k_loop_ret | apply if_t | apply if_f
  | (with_reducible apply k_block_on
     · decide)
  | ((with_reducible first | apply xOp | apply xDr | apply xIf); rfl; (simp only [Nat.reduceEqDiff, Nat.reduceAdd, ↓reduceIte, xBB, stG, opA, val, opdA, opdO, plainN, omap, binA, intBinA, loadV, readA, storeV, writeA, fieldAddrA, indexAddrA, lenA, builtinA, newA, unA, packA, Value.cells, h28, k27, hlt]; rfl); first | rfl | exact ⟨rfl, rfl, rfl⟩))
      intro _ _
      repeat (first
  | with_reducible first | apply ops_end | apply d_end | apply k_seq | apply k_seq_ret | apply k_seq_exit | apply k_block | apply k_block_ret | apply k_block_here | apply c_seq | apply c_block | apply c_region | apply c_skip | apply c_ret | apply c_exit | apply c_loop | apply k_loop_exit | apply k_loop_ret | apply if_t | apply if_f
  | (with_reducible apply k_block_on
     · decide)
  | ((with_reducible first | apply xOp | apply xDr | apply xIf); rfl; (simp only [Nat.reduceEqDiff, Nat.reduceAdd, ↓reduceIte, xBB, stG, opA, val, opdA, opdO, plainN, omap, binA, intBinA, loadV, readA, storeV, writeA, fieldAddrA, indexAddrA, lenA, builtinA, newA, unA, packA, Value.cells]; rfl); first | rfl | exact ⟨rfl, rfl, rfl⟩))
      clear hany hk hlt h28
      have hA0 : Ab s.nx s t := (Ab.new _ _).trans (hA.lower (Nat.le_succ _) (Nat.le_refl _))
      have hs' := hs.keep hA0
      have b1 := k1
      have hnx : s.nx < t.nx := hA.nx
      refine loop_k (lk' := t.nx) (s0 := t) (fun m f t => ∃ k : Nat, 1 ≤ k ∧ m = es.length - k ∧ incr (es.drop (k - 1)) = incr es ∧ f.get 5 = some (.int .i64 k)) (es.length - 1) hA0.nx (Nat.le_refl _) ?_ (Ab.refl _ _) ?_
      · exact ⟨1, by omega, rfl, rfl, by simp only [Nat.reduceEqDiff, T.get_put, ↓reduceIte]; rfl⟩
      · clear hA hF k1
        rintro m f u ⟨k, hk, hm, hin, h5⟩ hA hF
        (have k1 := hF 1 (by rfl); simp only [Nat.reduceEqDiff, T.get_put, ↓reduceIte, b1] at k1)
        have hbox' : u.hp.get s.nx = some (.cells true 28 [.int .i64 n, .slice b (es.map encE).length c]) := by rw [hA.get (Nat.le_refl _) hnx]; exact hbox
        have hs'' := hs'.keep hA
        have hnu := hA.nx
        by_cases hlt : (k : Int) < ((es.map encE).length : Int)
        · have hlt' : k < es.length := by simp at hlt; omega
          have hlt2 : k - 1 < es.length := by omega
          obtain ⟨id, off, wr, e, cs, rfl, g1, g2, g3, g4⟩ := hs''.at (i := k) (x := encE es[k]) (by simp [hlt'])
          obtain ⟨_, _, _, _, _, hh, g1', _, g3', _⟩ := hs''.at (i := k - 1) (x := encE es[k - 1]) (by simp [hlt2])
          simp only [Option.some.injEq, Addr.mk.injEq] at hh; obtain ⟨rfl, rfl, _⟩ := hh
          rw [g1] at g1'; cases g1'
          have hb : (0 : Int) ≤ (k : Int) ∧ (k : Int) < ((es.map encE).length : Int) := ⟨by omega, hlt⟩
          have hb' : (0 : Int) ≤ ((k - 1 : Nat) : Int) ∧ ((k - 1 : Nat) : Int) < ((es.map encE).length : Int) := ⟨by omega, by simp; omega⟩
          have hw1 : IntKind.i64.wrap ((k : Int) - 1) = ((k - 1 : Nat) : Int) := by rw [IntWalk.i64_in _ (by omega)]; omega
          have hw2 : IntKind.i64.wrap ((k : Int) + 1) = ((k + 1 : Nat) : Int) := by rw [IntWalk.i64_in _ (by omega)]; rfl
          simp only [encE] at g3 g3'
          repeat (first
  | with_reducible first | apply ops_end | apply d_end | apply k_seq | apply k_seq_ret | apply k_seq_exit | apply k_block | apply k_block_ret | apply k_block_here | apply c_seq | apply c_block | apply c_region | apply c_skip | apply c_ret | apply c_exit | apply c_loop | apply k_loop_exit | apply k_loop_ret | apply if_t | apply if_f
  | (with_reducible apply k_block_on
     · decide)
  | ((with_reducible first | apply xOp | apply xDr | apply xIf); rfl; (simp only [Nat.reduceEqDiff, Nat.reduceAdd, ↓reduceIte, xBB, stG, opA, val, opdA, opdO, plainN, omap, binA, intBinA, loadV, readA, storeV, writeA, fieldAddrA, indexAddrA, lenA, builtinA, newA, unA, packA, Value.cells, h5, k1, hbox', ty26, sz28, fd28_0, fd28_1, un26, hlt]; rfl); first | rfl | exact ⟨rfl, rfl, rfl⟩))
          refine c_draw [⟨false, [], none⟩, ⟨false, [], none⟩, ⟨false, [], none⟩, ⟨false, [], none⟩, ⟨false, [], none⟩, ⟨false, [], none⟩, ⟨false, [], none⟩, ⟨false, [1, 5], none⟩, ⟨false, [], none⟩, ⟨false, [], none⟩, ⟨false, [1, 5], none⟩, ⟨true, [], none⟩, ⟨true, [], none⟩] (by kernel_rfl) ?_
          repeat (first
  | with_reducible first | apply ops_end | apply d_end | apply k_seq | apply k_seq_ret | apply k_seq_exit | apply k_block | apply k_block_ret | apply k_block_here | apply c_seq | apply c_block | apply c_region | apply c_skip | apply c_ret | apply c_exit | apply c_loop | apply k_loop_exit | apply k_loop_ret | apply if_t | apply if_f
  | (with_reducible apply k_block_on
     · decide)
  | ((with_reducible first | apply xOp | apply xDr | apply xIf); rfl; (simp only [Nat.reduceEqDiff, Nat.reduceAdd, ↓reduceIte, xBB, stG, opA, val, opdA, opdO, plainN, omap, binA, intBinA, loadV, readA, storeV, writeA, fieldAddrA, indexAddrA, lenA, builtinA, newA, unA, packA, Value.cells, h5, k1, hbox', ty26, sz28, fd28_0, fd28_1, un26, hlt, sz58, ty58, hb, hb', g1, g3, g3', hw1]; rfl); first | rfl | exact ⟨rfl, rfl, rfl⟩))
          ((with_reducible first | apply xCa | apply xCd); rfl; (simp only [Nat.reduceEqDiff, Nat.reduceAdd, ↓reduceIte, xBB, stB, opdA, opdO, plainN, omap, val, Value.cells]; exact ⟨rfl, rfl⟩); try rfl)
          apply call_fn
          refine (f55_spec es[k - 1] es[k] _).use (by first | exact Nat.le_refl _ | (simp only [cond_true, cond_false]; omega) | omega | (dsimp only; omega)) (by first | exact Nat.le_refl _ | (simp only [cond_true, cond_false]; omega) | omega | (dsimp only; omega)) fun v s1 hv hA1 => ?_
          subst hv
          refine opt_of rfl ?_
          by_cases ho : ordE es[k - 1] es[k] ≥ 0
          · repeat (first
  | with_reducible first | apply ops_end | apply d_end | apply k_seq | apply k_seq_ret | apply k_seq_exit | apply k_block | apply k_block_ret | apply k_block_here | apply c_seq | apply c_block | apply c_region | apply c_skip | apply c_ret | apply c_exit | apply c_loop | apply k_loop_exit | apply k_loop_ret | apply if_t | apply if_f
  | (with_reducible apply k_block_on
     · decide)
  | ((with_reducible first | apply xOp | apply xDr | apply xIf); rfl; (simp only [Nat.reduceEqDiff, Nat.reduceAdd, ↓reduceIte, xBB, stG, opA, val, opdA, opdO, plainN, omap, binA, intBinA, loadV, readA, storeV, writeA, fieldAddrA, indexAddrA, lenA, builtinA, newA, unA, packA, Value.cells, ho]; rfl); first | rfl | exact ⟨rfl, rfl, rfl⟩))
            intro _ _
            repeat (first
  | with_reducible first | apply ops_end | apply d_end | apply k_seq | apply k_seq_ret | apply k_seq_exit | apply k_block | apply k_block_ret | apply k_block_here | apply c_seq | apply c_block | apply c_region | apply c_skip | apply c_ret | apply c_exit | apply c_loop | apply k_loop_exit | apply k_loop_ret | apply if_t | apply if_f
  | (with_reducible apply k_block_on
     · decide)
  | ((with_reducible first | apply xOp | apply xDr | apply xIf); rfl; (simp only [Nat.reduceEqDiff, Nat.reduceAdd, ↓reduceIte, xBB, stG, opA, val, opdA, opdO, plainN, omap, binA, intBinA, loadV, readA, storeV, writeA, fieldAddrA, indexAddrA, lenA, builtinA, newA, unA, packA, Value.cells]; rfl); first | rfl | exact ⟨rfl, rfl, rfl⟩))
            intro _
            ((with_reducible first | apply ret_i | apply ret_n); (simp only [Nat.reduceEqDiff, Nat.reduceAdd, ↓reduceIte, xBB, resA, opdA, opdO, plainN, omap, val, loadV, readA, packA]; rfl))
            rw [List.drop_eq_getElem_cons hlt2, show k - 1 + 1 = k by omega, List.drop_eq_getElem_cons hlt', incr] at hin
            simp only [show ¬ ordE es[k - 1] es[k] < 0 by omega, decide_false, Bool.false_and] at hin
            simp only [packR, checkR, show ¬ (n < 0 ∨ n > 64) by omega, h3', hno, ← hin, if_false]; rfl
          · repeat (first
  | with_reducible first | apply ops_end | apply d_end | apply k_seq | apply k_seq_ret | apply k_seq_exit | apply k_block | apply k_block_ret | apply k_block_here | apply c_seq | apply c_block | apply c_region | apply c_skip | apply c_ret | apply c_exit | apply c_loop | apply k_loop_exit | apply k_loop_ret | apply if_t | apply if_f
  | (with_reducible apply k_block_on
     · decide)
  | ((with_reducible first | apply xOp | apply xDr | apply xIf); rfl; (simp only [Nat.reduceEqDiff, Nat.reduceAdd, ↓reduceIte, xBB, stG, opA, val, opdA, opdO, plainN, omap, binA, intBinA, loadV, readA, storeV, writeA, fieldAddrA, indexAddrA, lenA, builtinA, newA, unA, packA, Value.cells, ho, h5, hw2]; rfl); first | rfl | exact ⟨rfl, rfl, rfl⟩))
            intro _ _
            refine k_loop_next (m' := es.length - (k + 1)) (by omega) ⟨k + 1, by omega, rfl, ?_, ?_⟩
            · rw [List.drop_eq_getElem_cons hlt2, show k - 1 + 1 = k by omega, List.drop_eq_getElem_cons hlt', incr, ← List.drop_eq_getElem_cons hlt'] at hin
              simp only [show ordE es[k - 1] es[k] < 0 by omega, decide_true, Bool.true_and] at hin
              exact hin
            · simp only [Nat.reduceEqDiff, T.get_put, ↓reduceIte]
        · repeat (first
  | with_reducible first | apply ops_end | apply d_end | apply k_seq | apply k_seq_ret | apply k_seq_exit | apply k_block | apply k_block_ret | apply k_block_here | apply c_seq | apply c_block | apply c_region | apply c_skip | apply c_ret | apply c_exit | apply c_loop | apply k_loop_exit | apply k_loop_ret | apply if_t | apply if_f
  | (with_reducible apply k_block_on
     · decide)
  | ((with_reducible first | apply xOp | apply xDr | apply xIf); rfl; (simp only [Nat.reduceEqDiff, Nat.reduceAdd, ↓reduceIte, xBB, stG, opA, val, opdA, opdO, plainN, omap, binA, intBinA, loadV, readA, storeV, writeA, fieldAddrA, indexAddrA, lenA, builtinA, newA, unA, packA, Value.cells, h5, k1, hbox', ty26, sz28, fd28_0, fd28_1, un26, hlt]; rfl); first | rfl | exact ⟨rfl, rfl, rfl⟩))
          intro _ _
          repeat (first
  | with_reducible first | apply ops_end | apply d_end | apply k_seq | apply k_seq_ret | apply k_seq_exit | apply k_block | apply k_block_ret | apply k_block_here | apply c_seq | apply c_block | apply c_region | apply c_skip | apply c_ret | apply c_exit | apply c_loop | apply k_loop_exit | apply k_loop_ret | apply if_t | apply if_f
  | (with_reducible apply k_block_on
     · decide)
  | ((with_reducible first | apply xOp | apply xDr | apply xIf); rfl; (simp only [Nat.reduceEqDiff, Nat.reduceAdd, ↓reduceIte, xBB, stG, opA, val, opdA, opdO, plainN, omap, binA, intBinA, loadV, readA, storeV, writeA, fieldAddrA, indexAddrA, lenA, builtinA, newA, unA, packA, Value.cells]; rfl); first | rfl | exact ⟨rfl, rfl, rfl⟩))
          intro _
          ((with_reducible first | apply ret_i | apply ret_n); (simp only [Nat.reduceEqDiff, Nat.reduceAdd, ↓reduceIte, xBB, resA, opdA, opdO, plainN, omap, val, loadV, readA, packA]; rfl))
          have hyes : incr es = true := by
            rw [← hin]
            have : (es.drop (k - 1)).length ≤ 1 := by rw [List.length_drop]; simp at hlt; omega
            match he : es.drop (k - 1), this with
            | [], _ => rfl
            | [x], _ => rfl
          simp only [packR, checkR, show ¬ (n < 0 ∨ n > 64) by omega, h3', hno, hyes, if_false, if_true]; rfl
end Go.Ev

/- graph.ready. -/
namespace Go.Ev
open Go Go.Proofs
set_option linter.unusedSimpArgs false
set_option linter.unusedVariables false
set_option maxRecDepth 100000
set_option maxHeartbeats 4000000
attribute [local irreducible] wpOps wpC wpD wpF wpLoop wpCall seqK blockK loopK retK T.put T.get T.setF

theorem f68_spec [Sorts Tryd.prog] (n k : Int) (ev : Value) (id : Nat) (wr : Bool) (e : TypeId) (s : HS) (hb : s.hp.get id = some (.cells wr e [.int .i64 n, ev])) :
    wpF Tryd.prog s.nx 68 [.int .i64 k, .pointer (some ⟨id, 0, none⟩)] s (fun v s' => v = .bool (beyondB n k) ∧ s' = s) := by
  refine wpF_of Tryd.func68 rfl rfl rfl rfl (Nat.le_refl _) ?_
  simp only [paramsA]
  repeat (first
  | with_reducible first | apply ops_end | apply d_end | apply k_seq | apply k_seq_ret | apply k_seq_exit | apply k_block | apply k_block_ret | apply k_block_here | apply c_seq | apply c_block | apply c_region | apply c_skip | apply c_ret | apply c_exit | apply c_loop | apply k_loop_exit | apply k_loop_ret | apply if_t | apply if_f
  | (with_reducible apply k_block_on
     · decide)
  | ((with_reducible first | apply xOp | apply xDr | apply xIf); rfl; (simp only [Nat.reduceEqDiff, Nat.reduceAdd, ↓reduceIte, xBB, stG, opA, val, opdA, opdO, plainN, omap, binA, intBinA, loadV, readA, storeV, writeA, fieldAddrA, indexAddrA, lenA, builtinA, newA, unA, packA, Value.cells, fd28_0, ty3, hb]; rfl); first | rfl | exact ⟨rfl, rfl, rfl⟩))
  ((with_reducible first | apply xCa | apply xCd); rfl; (simp only [Nat.reduceEqDiff, Nat.reduceAdd, ↓reduceIte, xBB, stB, opdA, opdO, plainN, omap, val, Value.cells]; exact ⟨rfl, rfl⟩); try rfl)
  apply call_fn
  refine (f54_spec n k s).mono fun v s1 hv => ?_
  obtain ⟨rfl, rfl⟩ := hv
  refine opt_of rfl ?_
  repeat (first
  | with_reducible first | apply ops_end | apply d_end | apply k_seq | apply k_seq_ret | apply k_seq_exit | apply k_block | apply k_block_ret | apply k_block_here | apply c_seq | apply c_block | apply c_region | apply c_skip | apply c_ret | apply c_exit | apply c_loop | apply k_loop_exit | apply k_loop_ret | apply if_t | apply if_f
  | (with_reducible apply k_block_on
     · decide)
  | ((with_reducible first | apply xOp | apply xDr | apply xIf); rfl; (simp only [Nat.reduceEqDiff, Nat.reduceAdd, ↓reduceIte, xBB, stG, opA, val, opdA, opdO, plainN, omap, binA, intBinA, loadV, readA, storeV, writeA, fieldAddrA, indexAddrA, lenA, builtinA, newA, unA, packA, Value.cells]; rfl); first | rfl | exact ⟨rfl, rfl, rfl⟩))
  intro _
  ((with_reducible first | apply ret_i | apply ret_n); (simp only [Nat.reduceEqDiff, Nat.reduceAdd, ↓reduceIte, xBB, resA, opdA, opdO, plainN, omap, val, loadV, readA, packA]; rfl))
  exact ⟨rfl, rfl⟩

/-- A function value that answers a question about a number, without a trace. -/
def AskI [Sorts Tryd.prog] (s : HS) (fv : Value) (p : Int → Bool) : Prop :=
  ∃ g ca, fv = .func (.func g) #[] ca ∧ ∀ x t, Ab s.nx s t → wpF Tryd.prog t.nx g ([.int .i64 x] ++ ca.toList) t (fun v t' => v = .bool (p x) ∧ t' = t)

theorem f84_spec [Sorts Tryd.prog] (l : List Int) (p : Int → Bool) (lv fv : Value) (s : HS) (hs : Sl s 1 lv (l.map encI)) (hl : l.length < 1000000000) (hf : AskI s fv p) :
    wpF Tryd.prog s.nx 84 [lv, fv] s (fun v s' => (∃ r : Int, v = .int .i64 r ∧ decide (r ≥ 0) = l.any p) ∧ s' = s) := by
  obtain ⟨b, c, rfl⟩ := hs.shape
  obtain ⟨g, ca, rfl, hf⟩ := hf
  refine wpF_of Tryd.func84 rfl rfl rfl rfl (Nat.le_refl _) ?_
  simp only [paramsA]
  repeat (first
  | with_reducible first | apply ops_end | apply d_end | apply k_seq | apply k_seq_ret | apply k_seq_exit | apply k_block | apply k_block_ret | apply k_block_here | apply c_seq | apply c_block | apply c_region | apply c_skip | apply c_ret | apply c_exit | apply c_loop | apply k_loop_exit | apply k_loop_ret | apply if_t | apply if_f
  | (with_reducible apply k_block_on
     · decide)
  | ((with_reducible first | apply xOp | apply xDr | apply xIf); rfl; (simp only [Nat.reduceEqDiff, Nat.reduceAdd, ↓reduceIte, xBB, stG, opA, val, opdA, opdO, plainN, omap, binA, intBinA, loadV, readA, storeV, writeA, fieldAddrA, indexAddrA, lenA, builtinA, newA, unA, packA, Value.cells, un35]; rfl); first | rfl | exact ⟨rfl, rfl, rfl⟩))
  refine loop_k (lk' := s.nx) (s0 := s) (fun m f t => t = s ∧ ∃ k : Nat, k + m = l.length ∧ (l.drop k).any p = l.any p ∧ f.get 8 = some (.int .i64 k)) l.length (Nat.le_refl _) (Nat.le_refl _) ?_ (Ab.refl _ _) ?_
  · exact ⟨rfl, 0, by omega, rfl, by simp only [Nat.reduceEqDiff, T.get_put, ↓reduceIte]; rfl⟩
  · rintro m f t ⟨rfl, k, hk, hany, h8⟩ hA hF
    (have k0 := hF 0 (by rfl); simp only [Nat.reduceEqDiff, T.get_put, ↓reduceIte] at k0; have k1 := hF 1 (by rfl); simp only [Nat.reduceEqDiff, T.get_put, ↓reduceIte] at k1; have k6 := hF 6 (by rfl); simp only [Nat.reduceEqDiff, T.get_put, ↓reduceIte] at k6; have k7 := hF 7 (by rfl); simp only [Nat.reduceEqDiff, T.get_put, ↓reduceIte] at k7)
    by_cases hlt : (k : Int) < ((l.map encI).length : Int)
    · have hlt' : k < l.length := by simp at hlt; omega
      obtain ⟨id, off, wr, e, cs, rfl, g1, g2, g3, g4⟩ := hs.at (i := k) (x := encI l[k]) (by simp [hlt'])
      have hb : (0 : Int) ≤ (k : Int) ∧ (k : Int) < ((l.map encI).length : Int) := ⟨by omega, hlt⟩
      simp only [encI] at g3
      have hw : IntKind.i64.wrap ((k : Int) + 1) = ((k + 1 : Nat) : Int) := by rw [IntWalk.i64_in _ (by omega)]; rfl
      repeat (first
  | with_reducible first | apply ops_end | apply d_end | apply k_seq | apply k_seq_ret | apply k_seq_exit | apply k_block | apply k_block_ret | apply k_block_here | apply c_seq | apply c_block | apply c_region | apply c_skip | apply c_ret | apply c_exit | apply c_loop | apply k_loop_exit | apply k_loop_ret | apply if_t | apply if_f
  | (with_reducible apply k_block_on
     · decide)
  | ((with_reducible first | apply xOp | apply xDr | apply xIf); rfl; (simp only [Nat.reduceEqDiff, Nat.reduceAdd, ↓reduceIte, xBB, stG, opA, val, opdA, opdO, plainN, omap, binA, intBinA, loadV, readA, storeV, writeA, fieldAddrA, indexAddrA, lenA, builtinA, newA, unA, packA, Value.cells, h8, k7, k6, k1, k0, hlt, un35, sz35, sz3, ty3, hb, g1, g3]; rfl); first | rfl | exact ⟨rfl, rfl, rfl⟩))
      ((with_reducible first | apply xCa | apply xCd); rfl; (simp only [Nat.reduceEqDiff, Nat.reduceAdd, ↓reduceIte, xBB, stB, opdA, opdO, plainN, omap, val, Value.cells, k1]; exact ⟨rfl, rfl⟩); try rfl)
      apply call_clo
      refine (hf l[k] _ (Ab.refl _ _)).mono fun v s1 hv => ?_
      obtain ⟨rfl, rfl⟩ := hv
      refine opt_of rfl ?_
      by_cases hp : p l[k] = true
      · repeat (first
  | with_reducible first | apply ops_end | apply d_end | apply k_seq | apply k_seq_ret | apply k_seq_exit | apply k_block | apply k_block_ret | apply k_block_here | apply c_seq | apply c_block | apply c_region | apply c_skip | apply c_ret | apply c_exit | apply c_loop | apply k_loop_exit | apply k_loop_ret | apply if_t | apply if_f
  | (with_reducible apply k_block_on
     · decide)
  | ((with_reducible first | apply xOp | apply xDr | apply xIf); rfl; (simp only [Nat.reduceEqDiff, Nat.reduceAdd, ↓reduceIte, xBB, stG, opA, val, opdA, opdO, plainN, omap, binA, intBinA, loadV, readA, storeV, writeA, fieldAddrA, indexAddrA, lenA, builtinA, newA, unA, packA, Value.cells, hp]; rfl); first | rfl | exact ⟨rfl, rfl, rfl⟩))
        intro _ _
        repeat (first
  | with_reducible first | apply ops_end | apply d_end | apply k_seq | apply k_seq_ret | apply k_seq_exit | apply k_block | apply k_block_ret | apply k_block_here | apply c_seq | apply c_block | apply c_region | apply c_skip | apply c_ret | apply c_exit | apply c_loop | apply k_loop_exit | apply k_loop_ret | apply if_t | apply if_f
  | (with_reducible apply k_block_on
     · decide)
  | ((with_reducible first | apply xOp | apply xDr | apply xIf); rfl; (simp only [Nat.reduceEqDiff, Nat.reduceAdd, ↓reduceIte, xBB, stG, opA, val, opdA, opdO, plainN, omap, binA, intBinA, loadV, readA, storeV, writeA, fieldAddrA, indexAddrA, lenA, builtinA, newA, unA, packA, Value.cells]; rfl); first | rfl | exact ⟨rfl, rfl, rfl⟩))
        intro _
        ((with_reducible first | apply ret_i | apply ret_n); (simp only [Nat.reduceEqDiff, Nat.reduceAdd, ↓reduceIte, xBB, resA, opdA, opdO, plainN, omap, val, loadV, readA, packA]; rfl))
        refine ⟨⟨k, rfl, ?_⟩, rfl⟩
        rw [← hany, List.drop_eq_getElem_cons hlt', List.any_cons, hp]; simp
      · simp only [Bool.not_eq_true] at hp
        repeat (first
  | with_reducible first | apply ops_end | apply d_end | apply k_seq | apply k_seq_ret | apply k_seq_exit | apply k_block | apply k_block_ret | apply k_block_here | apply c_seq | apply c_block | apply c_region | apply c_skip | apply c_ret | apply c_exit | apply c_loop | apply k_loop_exit | apply k_loop_ret | apply if_t | apply if_f
  | (with_reducible apply k_block_on
     · decide)
  | ((with_reducible first | apply xOp | apply xDr | apply xIf); rfl; (simp only [Nat.reduceEqDiff, Nat.reduceAdd, ↓reduceIte, xBB, stG, opA, val, opdA, opdO, plainN, omap, binA, intBinA, loadV, readA, storeV, writeA, fieldAddrA, indexAddrA, lenA, builtinA, newA, unA, packA, Value.cells, hp, h8, hw]; rfl); first | rfl | exact ⟨rfl, rfl, rfl⟩))
        intro _ _
        refine k_loop_next (m' := m - 1) (by omega) ⟨rfl, k + 1, by omega, ?_, ?_⟩
        · rw [← hany, List.drop_eq_getElem_cons hlt', List.any_cons, hp]; rfl
        · simp only [Nat.reduceEqDiff, T.get_put, ↓reduceIte]
    · have hno : l.any p = false := by rw [← hany, List.drop_eq_nil_of_le (by simp at hlt; omega)]; rfl
      repeat (first
  | with_reducible first | apply ops_end | apply d_end | apply k_seq | apply k_seq_ret | apply k_seq_exit | apply k_block | apply k_block_ret | apply k_block_here | apply c_seq | apply c_block | apply c_region | apply c_skip | apply c_ret | apply c_exit | apply c_loop | apply k_loop_exit | apply k_loop_ret | apply if_t | apply if_f
  | (with_reducible apply k_block_on
     · decide)
  | ((with_reducible first | apply xOp | apply xDr | apply xIf); rfl; (simp only [Nat.reduceEqDiff, Nat.reduceAdd, ↓reduceIte, xBB, stG, opA, val, opdA, opdO, plainN, omap, binA, intBinA, loadV, readA, storeV, writeA, fieldAddrA, indexAddrA, lenA, builtinA, newA, unA, packA, Value.cells, h8, k7, hlt]; rfl); first | rfl | exact ⟨rfl, rfl, rfl⟩))
      intro _ _
      repeat (first
  | with_reducible first | apply ops_end | apply d_end | apply k_seq | apply k_seq_ret | apply k_seq_exit | apply k_block | apply k_block_ret | apply k_block_here | apply c_seq | apply c_block | apply c_region | apply c_skip | apply c_ret | apply c_exit | apply c_loop | apply k_loop_exit | apply k_loop_ret | apply if_t | apply if_f
  | (with_reducible apply k_block_on
     · decide)
  | ((with_reducible first | apply xOp | apply xDr | apply xIf); rfl; (simp only [Nat.reduceEqDiff, Nat.reduceAdd, ↓reduceIte, xBB, stG, opA, val, opdA, opdO, plainN, omap, binA, intBinA, loadV, readA, storeV, writeA, fieldAddrA, indexAddrA, lenA, builtinA, newA, unA, packA, Value.cells]; rfl); first | rfl | exact ⟨rfl, rfl, rfl⟩))
      intro _
      ((with_reducible first | apply ret_i | apply ret_n); (simp only [Nat.reduceEqDiff, Nat.reduceAdd, ↓reduceIte, xBB, resA, opdA, opdO, plainN, omap, val, loadV, readA, packA]; rfl))
      exact ⟨⟨-1, rfl, by rw [hno]; rfl⟩, rfl⟩

theorem f67_spec [Sorts Tryd.prog] (l : List Int) (p : Int → Bool) (lv fv : Value) (s : HS) (hs : Sl s 1 lv (l.map encI)) (hl : l.length < 1000000000) (hf : AskI s fv p) :
    wpF Tryd.prog s.nx 67 [lv, fv] s (fun v s' => v = .bool (l.any p) ∧ s' = s) := by
  refine wpF_of Tryd.func67 rfl rfl rfl rfl (Nat.le_refl _) ?_
  simp only [paramsA]
  repeat (first
  | with_reducible first | apply ops_end | apply d_end | apply k_seq | apply k_seq_ret | apply k_seq_exit | apply k_block | apply k_block_ret | apply k_block_here | apply c_seq | apply c_block | apply c_region | apply c_skip | apply c_ret | apply c_exit | apply c_loop | apply k_loop_exit | apply k_loop_ret | apply if_t | apply if_f
  | (with_reducible apply k_block_on
     · decide)
  | ((with_reducible first | apply xOp | apply xDr | apply xIf); rfl; (simp only [Nat.reduceEqDiff, Nat.reduceAdd, ↓reduceIte, xBB, stG, opA, val, opdA, opdO, plainN, omap, binA, intBinA, loadV, readA, storeV, writeA, fieldAddrA, indexAddrA, lenA, builtinA, newA, unA, packA, Value.cells]; rfl); first | rfl | exact ⟨rfl, rfl, rfl⟩))
  ((with_reducible first | apply xCa | apply xCd); rfl; (simp only [Nat.reduceEqDiff, Nat.reduceAdd, ↓reduceIte, xBB, stB, opdA, opdO, plainN, omap, val, Value.cells]; exact ⟨rfl, rfl⟩); try rfl)
  apply call_fn
  refine (f84_spec l p lv fv s hs hl hf).mono fun v s1 hv => ?_
  obtain ⟨⟨r, rfl, hr⟩, rfl⟩ := hv
  refine opt_of rfl ?_
  repeat (first
  | with_reducible first | apply ops_end | apply d_end | apply k_seq | apply k_seq_ret | apply k_seq_exit | apply k_block | apply k_block_ret | apply k_block_here | apply c_seq | apply c_block | apply c_region | apply c_skip | apply c_ret | apply c_exit | apply c_loop | apply k_loop_exit | apply k_loop_ret | apply if_t | apply if_f
  | (with_reducible apply k_block_on
     · decide)
  | ((with_reducible first | apply xOp | apply xDr | apply xIf); rfl; (simp only [Nat.reduceEqDiff, Nat.reduceAdd, ↓reduceIte, xBB, stG, opA, val, opdA, opdO, plainN, omap, binA, intBinA, loadV, readA, storeV, writeA, fieldAddrA, indexAddrA, lenA, builtinA, newA, unA, packA, Value.cells]; rfl); first | rfl | exact ⟨rfl, rfl, rfl⟩))
  intro _
  ((with_reducible first | apply ret_i | apply ret_n); (simp only [Nat.reduceEqDiff, Nat.reduceAdd, ↓reduceIte, xBB, resA, opdA, opdO, plainN, omap, val, loadV, readA, packA]; rfl))
  exact ⟨by rw [← hr]; rfl, rfl⟩

def incrI : List Int → Bool
  | x :: y :: l => decide (x < y) && incrI (y :: l)
  | _ => true
/-- What ready returns. -/
def readyR (n : Int) (es : List (Int × Int)) (l : List Int) : Int :=
  if checkR n es ≠ 0 then checkR n es else if l.any (beyondB n) then 2 else if incrI l then 0 else 8

theorem f57_spec [Sorts Tryd.prog] (n : Int) (es : List (Int × Int)) (ev : Value) (l : List Int) (lv : Value) (s : HS) (hs : Sl s 2 ev (es.map encE)) (hl : Sl s 1 lv (l.map encI)) (hlen : l.length < 1000000000) :
    wpF Tryd.prog s.nx 57 [vG n ev, lv] s (fun v s' => v = .int .i64 (readyR n es l)) := by
  obtain ⟨b, c, rfl⟩ := hl.shape
  refine wpF_of Tryd.func57 rfl rfl rfl rfl (Nat.le_refl _) ?_
  simp only [paramsA, vG]
  repeat (first
  | with_reducible first | apply ops_end | apply d_end | apply k_seq | apply k_seq_ret | apply k_seq_exit | apply k_block | apply k_block_ret | apply k_block_here | apply c_seq | apply c_block | apply c_region | apply c_skip | apply c_ret | apply c_exit | apply c_loop | apply k_loop_exit | apply k_loop_ret | apply if_t | apply if_f
  | (with_reducible apply k_block_on
     · decide)
  | ((with_reducible first | apply xOp | apply xDr | apply xIf); rfl; (simp only [Nat.reduceEqDiff, Nat.reduceAdd, ↓reduceIte, xBB, stG, opA, val, opdA, opdO, plainN, omap, binA, intBinA, loadV, readA, storeV, writeA, fieldAddrA, indexAddrA, lenA, builtinA, newA, unA, packA, Value.cells, ty28, sz28, cutL]; rfl); first | rfl | exact ⟨rfl, rfl, rfl⟩))
  have hA0 := Ab.new (lk := s.nx) s (.cells true 28 [.int .i64 n, ev])
  ((with_reducible first | apply xCa | apply xCd); rfl; (simp only [Nat.reduceEqDiff, Nat.reduceAdd, ↓reduceIte, xBB, stB, opdA, opdO, plainN, omap, val, Value.cells]; exact ⟨rfl, rfl⟩); try rfl)
  apply call_fn
  refine (f36_spec n es ev _ (hs.keep hA0)).use (by first | exact Nat.le_refl _ | (simp only [cond_true, cond_false]; omega) | omega | (dsimp only; omega)) (by first | exact Nat.le_refl _ | (simp only [cond_true, cond_false]; omega) | omega | (dsimp only; omega)) fun v s1 hv hA1 => ?_
  subst hv
  refine opt_of rfl ?_
  have hbox := hA1.get (Nat.le_refl _) (Nat.lt_succ_self s.nx)
  rw [T.get_put_eq] at hbox
  by_cases hc : checkR n es = 0
  · have hc' : (checkR n es != 0) = false := by simp [hc]
    repeat (first
  | with_reducible first | apply ops_end | apply d_end | apply k_seq | apply k_seq_ret | apply k_seq_exit | apply k_block | apply k_block_ret | apply k_block_here | apply c_seq | apply c_block | apply c_region | apply c_skip | apply c_ret | apply c_exit | apply c_loop | apply k_loop_exit | apply k_loop_ret | apply if_t | apply if_f
  | (with_reducible apply k_block_on
     · decide)
  | ((with_reducible first | apply xOp | apply xDr | apply xIf); rfl; (simp only [Nat.reduceEqDiff, Nat.reduceAdd, ↓reduceIte, xBB, stG, opA, val, opdA, opdO, plainN, omap, binA, intBinA, loadV, readA, storeV, writeA, fieldAddrA, indexAddrA, lenA, builtinA, newA, unA, packA, Value.cells, hc']; rfl); first | rfl | exact ⟨rfl, rfl, rfl⟩))
    ((with_reducible first | apply xCa | apply xCd); rfl; (simp only [Nat.reduceEqDiff, Nat.reduceAdd, ↓reduceIte, xBB, stB, opdA, opdO, plainN, omap, val, Value.cells]; exact ⟨rfl, rfl⟩); try rfl)
    apply call_fn
    have hA2 := hA0.trans (hA1.lower (Nat.le_succ _) (Nat.le_refl _))
    have hl2 := hl.keep hA2
    refine (f67_spec l (beyondB n) _ _ _ hl2 hlen ⟨68, _, rfl, fun x t hA3 => ?_⟩).use hA2.nx (Nat.le_refl _) fun v s2 hv _ => ?_
    · exact f68_spec n x ev s.nx true 28 t (by rw [hA3.get (Nat.le_refl _) hA1.nx]; exact hbox)
    obtain ⟨rfl, rfl⟩ := hv
    refine opt_of rfl ?_
    by_cases ha : l.any (beyondB n) = true
    · repeat (first
  | with_reducible first | apply ops_end | apply d_end | apply k_seq | apply k_seq_ret | apply k_seq_exit | apply k_block | apply k_block_ret | apply k_block_here | apply c_seq | apply c_block | apply c_region | apply c_skip | apply c_ret | apply c_exit | apply c_loop | apply k_loop_exit | apply k_loop_ret | apply if_t | apply if_f
  | (with_reducible apply k_block_on
     · decide)
  | ((with_reducible first | apply xOp | apply xDr | apply xIf); rfl; (simp only [Nat.reduceEqDiff, Nat.reduceAdd, ↓reduceIte, xBB, stG, opA, val, opdA, opdO, plainN, omap, binA, intBinA, loadV, readA, storeV, writeA, fieldAddrA, indexAddrA, lenA, builtinA, newA, unA, packA, Value.cells, ha]; rfl); first | rfl | exact ⟨rfl, rfl, rfl⟩))
      intro _
      ((with_reducible first | apply ret_i | apply ret_n); (simp only [Nat.reduceEqDiff, Nat.reduceAdd, ↓reduceIte, xBB, resA, opdA, opdO, plainN, omap, val, loadV, readA, packA]; rfl))
      simp only [packR, readyR, hc, ha]; rfl
    · simp only [Bool.not_eq_true] at ha
      repeat (first
  | with_reducible first | apply ops_end | apply d_end | apply k_seq | apply k_seq_ret | apply k_seq_exit | apply k_block | apply k_block_ret | apply k_block_here | apply c_seq | apply c_block | apply c_region | apply c_skip | apply c_ret | apply c_exit | apply c_loop | apply k_loop_exit | apply k_loop_ret | apply if_t | apply if_f
  | (with_reducible apply k_block_on
     · decide)
  | ((with_reducible first | apply xOp | apply xDr | apply xIf); rfl; (simp only [Nat.reduceEqDiff, Nat.reduceAdd, ↓reduceIte, xBB, stG, opA, val, opdA, opdO, plainN, omap, binA, intBinA, loadV, readA, storeV, writeA, fieldAddrA, indexAddrA, lenA, builtinA, newA, unA, packA, Value.cells, ha]; rfl); first | rfl | exact ⟨rfl, rfl, rfl⟩))
      refine loop_k (lk' := s2.nx) (s0 := s2) (fun m f t => t = s2 ∧ ∃ k : Nat, 1 ≤ k ∧ m = l.length - k ∧ incrI (l.drop (k - 1)) = incrI l ∧ f.get 6 = some (.int .i64 k)) (l.length - 1) hA2.nx (Nat.le_refl _) ?_ (Ab.refl _ _) ?_
      · exact ⟨rfl, 1, by omega, rfl, rfl, by simp only [Nat.reduceEqDiff, T.get_put, ↓reduceIte]; rfl⟩
      · rintro m f u ⟨rfl, k, hk, hm, hin, h5⟩ hA hF
        (have k1 := hF 1 (by rfl); simp only [Nat.reduceEqDiff, T.get_put, ↓reduceIte] at k1)
        by_cases hlt : (k : Int) < ((l.map encI).length : Int)
        · have hlt' : k < l.length := by simp at hlt; omega
          have hlt2 : k - 1 < l.length := by omega
          obtain ⟨id, off, wr, e, cs, rfl, g1, g2, g3, g4⟩ := hl2.at (i := k) (x := encI l[k]) (by simp [hlt'])
          obtain ⟨_, _, _, _, _, hh, g1', _, g3', _⟩ := hl2.at (i := k - 1) (x := encI l[k - 1]) (by simp [hlt2])
          simp only [Option.some.injEq, Addr.mk.injEq] at hh; obtain ⟨rfl, rfl, _⟩ := hh
          rw [g1] at g1'; cases g1'
          have hb : (0 : Int) ≤ (k : Int) ∧ (k : Int) < ((l.map encI).length : Int) := ⟨by omega, hlt⟩
          have hb' : (0 : Int) ≤ ((k - 1 : Nat) : Int) ∧ ((k - 1 : Nat) : Int) < ((l.map encI).length : Int) := ⟨by omega, by simp; omega⟩
          have hw1 : IntKind.i64.wrap ((k : Int) - 1) = ((k - 1 : Nat) : Int) := by rw [IntWalk.i64_in _ (by omega)]; omega
          have hw2 : IntKind.i64.wrap ((k : Int) + 1) = ((k + 1 : Nat) : Int) := by rw [IntWalk.i64_in _ (by omega)]; rfl
          simp only [encI] at g3 g3'
          repeat (first
  | with_reducible first | apply ops_end | apply d_end | apply k_seq | apply k_seq_ret | apply k_seq_exit | apply k_block | apply k_block_ret | apply k_block_here | apply c_seq | apply c_block | apply c_region | apply c_skip | apply c_ret | apply c_exit | apply c_loop | apply k_loop_exit | apply k_loop_ret | apply if_t | apply if_f
  | (with_reducible apply k_block_on
     · decide)
  | ((with_reducible first | apply xOp | apply xDr | apply xIf); rfl; (simp only [Nat.reduceEqDiff, Nat.reduceAdd, ↓reduceIte, xBB, stG, opA, val, opdA, opdO, plainN, omap, binA, intBinA, loadV, readA, storeV, writeA, fieldAddrA, indexAddrA, lenA, builtinA, newA, unA, packA, Value.cells, h5, k1, un35, hlt]; rfl); first | rfl | exact ⟨rfl, rfl, rfl⟩))
          refine c_draw [⟨false, [], none⟩, ⟨false, [], none⟩, ⟨false, [], none⟩, ⟨false, [], none⟩, ⟨false, [], none⟩, ⟨false, [], none⟩, ⟨false, [], none⟩, ⟨false, [], none⟩, ⟨false, [3], none⟩, ⟨true, [], none⟩] (by kernel_rfl) ?_
          by_cases ho : l[k] ≤ l[k - 1]
          · repeat (first
  | with_reducible first | apply ops_end | apply d_end | apply k_seq | apply k_seq_ret | apply k_seq_exit | apply k_block | apply k_block_ret | apply k_block_here | apply c_seq | apply c_block | apply c_region | apply c_skip | apply c_ret | apply c_exit | apply c_loop | apply k_loop_exit | apply k_loop_ret | apply if_t | apply if_f
  | (with_reducible apply k_block_on
     · decide)
  | ((with_reducible first | apply xOp | apply xDr | apply xIf); rfl; (simp only [Nat.reduceEqDiff, Nat.reduceAdd, ↓reduceIte, xBB, stG, opA, val, opdA, opdO, plainN, omap, binA, intBinA, loadV, readA, storeV, writeA, fieldAddrA, indexAddrA, lenA, builtinA, newA, unA, packA, Value.cells, h5, k1, un35, sz35, sz3, ty3, hb, hb', g1, g3, g3', hw1, ho]; rfl); first | rfl | exact ⟨rfl, rfl, rfl⟩))
            intro _ _
            repeat (first
  | with_reducible first | apply ops_end | apply d_end | apply k_seq | apply k_seq_ret | apply k_seq_exit | apply k_block | apply k_block_ret | apply k_block_here | apply c_seq | apply c_block | apply c_region | apply c_skip | apply c_ret | apply c_exit | apply c_loop | apply k_loop_exit | apply k_loop_ret | apply if_t | apply if_f
  | (with_reducible apply k_block_on
     · decide)
  | ((with_reducible first | apply xOp | apply xDr | apply xIf); rfl; (simp only [Nat.reduceEqDiff, Nat.reduceAdd, ↓reduceIte, xBB, stG, opA, val, opdA, opdO, plainN, omap, binA, intBinA, loadV, readA, storeV, writeA, fieldAddrA, indexAddrA, lenA, builtinA, newA, unA, packA, Value.cells]; rfl); first | rfl | exact ⟨rfl, rfl, rfl⟩))
            intro _
            ((with_reducible first | apply ret_i | apply ret_n); (simp only [Nat.reduceEqDiff, Nat.reduceAdd, ↓reduceIte, xBB, resA, opdA, opdO, plainN, omap, val, loadV, readA, packA]; rfl))
            rw [List.drop_eq_getElem_cons hlt2, show k - 1 + 1 = k by omega, List.drop_eq_getElem_cons hlt', incrI] at hin
            simp only [show ¬ l[k - 1] < l[k] by omega, decide_false, Bool.false_and] at hin
            simp only [packR, readyR, hc, ha, ← hin]; rfl
          · repeat (first
  | with_reducible first | apply ops_end | apply d_end | apply k_seq | apply k_seq_ret | apply k_seq_exit | apply k_block | apply k_block_ret | apply k_block_here | apply c_seq | apply c_block | apply c_region | apply c_skip | apply c_ret | apply c_exit | apply c_loop | apply k_loop_exit | apply k_loop_ret | apply if_t | apply if_f
  | (with_reducible apply k_block_on
     · decide)
  | ((with_reducible first | apply xOp | apply xDr | apply xIf); rfl; (simp only [Nat.reduceEqDiff, Nat.reduceAdd, ↓reduceIte, xBB, stG, opA, val, opdA, opdO, plainN, omap, binA, intBinA, loadV, readA, storeV, writeA, fieldAddrA, indexAddrA, lenA, builtinA, newA, unA, packA, Value.cells, h5, k1, un35, sz35, sz3, ty3, hb, hb', g1, g3, g3', hw1, ho, hw2]; rfl); first | rfl | exact ⟨rfl, rfl, rfl⟩))
            intro _ _
            refine k_loop_next (m' := l.length - (k + 1)) (by omega) ⟨rfl, k + 1, by omega, rfl, ?_, ?_⟩
            · rw [List.drop_eq_getElem_cons hlt2, show k - 1 + 1 = k by omega, List.drop_eq_getElem_cons hlt', incrI, ← List.drop_eq_getElem_cons hlt'] at hin
              simp only [show l[k - 1] < l[k] by omega, decide_true, Bool.true_and] at hin
              exact hin
            · simp only [Nat.reduceEqDiff, T.get_put, ↓reduceIte]
        · repeat (first
  | with_reducible first | apply ops_end | apply d_end | apply k_seq | apply k_seq_ret | apply k_seq_exit | apply k_block | apply k_block_ret | apply k_block_here | apply c_seq | apply c_block | apply c_region | apply c_skip | apply c_ret | apply c_exit | apply c_loop | apply k_loop_exit | apply k_loop_ret | apply if_t | apply if_f
  | (with_reducible apply k_block_on
     · decide)
  | ((with_reducible first | apply xOp | apply xDr | apply xIf); rfl; (simp only [Nat.reduceEqDiff, Nat.reduceAdd, ↓reduceIte, xBB, stG, opA, val, opdA, opdO, plainN, omap, binA, intBinA, loadV, readA, storeV, writeA, fieldAddrA, indexAddrA, lenA, builtinA, newA, unA, packA, Value.cells, h5, k1, un35, hlt]; rfl); first | rfl | exact ⟨rfl, rfl, rfl⟩))
          intro _ _
          repeat (first
  | with_reducible first | apply ops_end | apply d_end | apply k_seq | apply k_seq_ret | apply k_seq_exit | apply k_block | apply k_block_ret | apply k_block_here | apply c_seq | apply c_block | apply c_region | apply c_skip | apply c_ret | apply c_exit | apply c_loop | apply k_loop_exit | apply k_loop_ret | apply if_t | apply if_f
  | (with_reducible apply k_block_on
     · decide)
  | ((with_reducible first | apply xOp | apply xDr | apply xIf); rfl; (simp only [Nat.reduceEqDiff, Nat.reduceAdd, ↓reduceIte, xBB, stG, opA, val, opdA, opdO, plainN, omap, binA, intBinA, loadV, readA, storeV, writeA, fieldAddrA, indexAddrA, lenA, builtinA, newA, unA, packA, Value.cells]; rfl); first | rfl | exact ⟨rfl, rfl, rfl⟩))
          intro _
          ((with_reducible first | apply ret_i | apply ret_n); (simp only [Nat.reduceEqDiff, Nat.reduceAdd, ↓reduceIte, xBB, resA, opdA, opdO, plainN, omap, val, loadV, readA, packA]; rfl))
          have hyes : incrI l = true := by
            rw [← hin]
            have : (l.drop (k - 1)).length ≤ 1 := by rw [List.length_drop]; simp at hlt; omega
            match he : l.drop (k - 1), this with
            | [], _ => rfl
            | [x], _ => rfl
          simp only [packR, readyR, hc, ha, hyes]; rfl
  · have hc' : (checkR n es != 0) = true := by simp [hc]
    repeat (first
  | with_reducible first | apply ops_end | apply d_end | apply k_seq | apply k_seq_ret | apply k_seq_exit | apply k_block | apply k_block_ret | apply k_block_here | apply c_seq | apply c_block | apply c_region | apply c_skip | apply c_ret | apply c_exit | apply c_loop | apply k_loop_exit | apply k_loop_ret | apply if_t | apply if_f
  | (with_reducible apply k_block_on
     · decide)
  | ((with_reducible first | apply xOp | apply xDr | apply xIf); rfl; (simp only [Nat.reduceEqDiff, Nat.reduceAdd, ↓reduceIte, xBB, stG, opA, val, opdA, opdO, plainN, omap, binA, intBinA, loadV, readA, storeV, writeA, fieldAddrA, indexAddrA, lenA, builtinA, newA, unA, packA, Value.cells, hc']; rfl); first | rfl | exact ⟨rfl, rfl, rfl⟩))
    intro _
    ((with_reducible first | apply ret_i | apply ret_n); (simp only [Nat.reduceEqDiff, Nat.reduceAdd, ↓reduceIte, xBB, resA, opdA, opdO, plainN, omap, val, loadV, readA, packA]; rfl))
    simp only [packR, readyR, if_pos hc, ne_eq, hc, not_false_eq_true, if_true]
end Go.Ev

/- slices.Clone, graph.listed. -/
namespace Go.Ev
open Go Go.Proofs
set_option linter.unusedSimpArgs false
set_option linter.unusedVariables false
set_option maxRecDepth 100000
set_option maxHeartbeats 4000000
attribute [local irreducible] wpOps wpC wpD wpF wpLoop wpCall seqK blockK loopK retK T.put T.get T.setF

theorem eqA_slice {P : Program} {t e : TypeId} {b : Option Addr} {n c : Nat} (h : P.underlying t = some (.slice e)) : eqA P 10000 t (.slice b n c) (.slice none 0 0) = some b.isNone := by
  show eqA P (9999 + 1) t _ _ = _
  unfold eqA
  rw [h]
  cases b <;> rfl

/-- The slice of an own block is its own. -/
def newer (s : HS) (o : Option Nat) : Prop := ∀ id, o = some id → s.nx ≤ id

theorem f70_spec [Sorts Tryd.prog] (l : List Int) (lv : Value) (s : HS) (hs : Sl s 1 lv (l.map encI)) (hl : l.length < 1000000000) :
    wpF Tryd.prog s.nx 70 [lv] s (fun v s' => ∃ o, Own s' 3 1 o v (l.map encI) ∧ newer s o) := by
  obtain ⟨b, c, rfl⟩ := hs.shape
  refine wpF_of Tryd.func70 rfl rfl rfl rfl (Nat.le_refl _) ?_
  simp only [paramsA]
  cases b with
  | none =>
    have hnil : l = [] := by
      cases l with
      | nil => rfl
      | cons x l =>
        obtain ⟨_, _, _, _, _, h, _⟩ := hs.at (i := 0) (x := encI x) rfl
        cases h
    repeat (first
  | with_reducible first | apply ops_end | apply d_end | apply k_seq | apply k_seq_ret | apply k_seq_exit | apply k_block | apply k_block_ret | apply k_block_here | apply c_seq | apply c_block | apply c_region | apply c_skip | apply c_ret | apply c_exit | apply c_loop | apply k_loop_exit | apply k_loop_ret | apply if_t | apply if_f
  | (with_reducible apply k_block_on
     · decide)
  | ((with_reducible first | apply xOp | apply xDr | apply xIf); rfl; (simp only [Nat.reduceEqDiff, Nat.reduceAdd, ↓reduceIte, xBB, stG, opA, val, opdA, opdO, plainN, omap, binA, intBinA, loadV, readA, storeV, writeA, fieldAddrA, indexAddrA, lenA, builtinA, newA, unA, packA, Value.cells, eqGuardA, eqA_slice un35, Option.isNone]; rfl); first | rfl | exact ⟨rfl, rfl, rfl⟩))
    intro _
    ((with_reducible first | apply ret_i | apply ret_n); (simp only [Nat.reduceEqDiff, Nat.reduceAdd, ↓reduceIte, xBB, resA, opdA, opdO, plainN, omap, val, loadV, readA, packA]; rfl))
    exact ⟨none, ⟨by rw [hnil]; rfl, rfl⟩, fun _ h => by cases h⟩
  | some a =>
    repeat (first
  | with_reducible first | apply ops_end | apply d_end | apply k_seq | apply k_seq_ret | apply k_seq_exit | apply k_block | apply k_block_ret | apply k_block_here | apply c_seq | apply c_block | apply c_region | apply c_skip | apply c_ret | apply c_exit | apply c_loop | apply k_loop_exit | apply k_loop_ret | apply if_t | apply if_f
  | (with_reducible apply k_block_on
     · decide)
  | ((with_reducible first | apply xOp | apply xDr | apply xIf); rfl; (simp only [Nat.reduceEqDiff, Nat.reduceAdd, ↓reduceIte, xBB, stG, opA, val, opdA, opdO, plainN, omap, binA, intBinA, loadV, readA, storeV, writeA, fieldAddrA, indexAddrA, lenA, builtinA, newA, unA, packA, Value.cells, eqGuardA, eqA_slice un35, Option.isNone, buildSliceA, el35, sz3, zr3, zerosL, fillA]; rfl); first | rfl | exact ⟨rfl, rfl, rfl⟩))
    ((with_reducible first | apply ops_opt | apply xPd); (first | rfl | exact ⟨rfl, rfl⟩); (simp only [Nat.reduceEqDiff, Nat.reduceAdd, ↓reduceIte, xBB, opA, val, opdA, opdO, plainN, omap, binA, intBinA, loadV, readA, storeV, writeA, fieldAddrA, indexAddrA, lenA, builtinA, newA, unA, packA, Value.cells, un35]; rfl))
    have hown : Own { hp := s.hp.put s.nx (some (.cells true 3 [])), nx := s.nx + 1 } 3 1 (some s.nx) (.slice (some ⟨s.nx, 0, none⟩) 0 0) [] :=
      Own.block (T.get_put_eq _ _ _) rfl (Nat.lt_succ_self _) rfl (Or.inl rfl) (fun x hx => by cases hx) (by unfold UNK; simp)
    have hs2 := hs.keep (Ab.new s (.cells true 3 []))
    refine opt_ex (app_own (lk := s.nx) el35 sz3 by3 zr3 rfl (by decide) hown (fun id h => by cases h; exact Nat.le_refl _) hs2.len (fun h => hs2.first h) ?_ ?_) fun q hq => ?_
    · intro y hy; obtain ⟨x, _, rfl⟩ := List.mem_map.1 hy; exact ⟨rfl, rfl⟩
    · simp; omega
    obtain ⟨v, s1⟩ := q
    obtain ⟨h1, h2, o', h3, h4⟩ := hq
    refine opt_of rfl ?_
    repeat (first
  | with_reducible first | apply ops_end | apply d_end | apply k_seq | apply k_seq_ret | apply k_seq_exit | apply k_block | apply k_block_ret | apply k_block_here | apply c_seq | apply c_block | apply c_region | apply c_skip | apply c_ret | apply c_exit | apply c_loop | apply k_loop_exit | apply k_loop_ret | apply if_t | apply if_f
  | (with_reducible apply k_block_on
     · decide)
  | ((with_reducible first | apply xOp | apply xDr | apply xIf); rfl; (simp only [Nat.reduceEqDiff, Nat.reduceAdd, ↓reduceIte, xBB, stG, opA, val, opdA, opdO, plainN, omap, binA, intBinA, loadV, readA, storeV, writeA, fieldAddrA, indexAddrA, lenA, builtinA, newA, unA, packA, Value.cells]; rfl); first | rfl | exact ⟨rfl, rfl, rfl⟩))
    intro _
    ((with_reducible first | apply ret_i | apply ret_n); (simp only [Nat.reduceEqDiff, Nat.reduceAdd, ↓reduceIte, xBB, resA, opdA, opdO, plainN, omap, val, loadV, readA, packA]; rfl))
    refine ⟨o', h3, fun id h => ?_⟩
    rcases h4 with rfl | rfl <;> cases h
    · exact Nat.le_refl _
    · exact Nat.le_succ _

def encB (b : Bool) : List Value := [.bool b]
/-- The places of a list that are true, from a number on. -/
def listedL : Int → List Bool → List Int
  | _, [] => []
  | k, b :: l => if b then k :: listedL (k + 1) l else listedL (k + 1) l

theorem listedL_len (k : Int) (l : List Bool) : (listedL k l).length ≤ l.length := by
  induction l generalizing k with
  | nil => exact Nat.le_refl _
  | cons b l ih =>
    have := ih (k + 1)
    unfold listedL
    split
    · simp only [List.length_cons]; omega
    · simp only [List.length_cons]; omega

theorem f58_spec [Sorts Tryd.prog] (l : List Bool) (lv : Value) (s : HS) (hs : Sl s 1 lv (l.map encB)) (hl : l.length < 100000000) :
    wpF Tryd.prog s.nx 58 [lv] s (fun v s' => ∃ o, Own s' 3 1 o v ((listedL 0 l).map encI) ∧ newer s o) := by
  obtain ⟨b, c, rfl⟩ := hs.shape
  refine wpF_of Tryd.func58 rfl rfl rfl rfl (Nat.le_refl _) ?_
  simp only [paramsA]
  repeat (first
  | with_reducible first | apply ops_end | apply d_end | apply k_seq | apply k_seq_ret | apply k_seq_exit | apply k_block | apply k_block_ret | apply k_block_here | apply c_seq | apply c_block | apply c_region | apply c_skip | apply c_ret | apply c_exit | apply c_loop | apply k_loop_exit | apply k_loop_ret | apply if_t | apply if_f
  | (with_reducible apply k_block_on
     · decide)
  | ((with_reducible first | apply xOp | apply xDr | apply xIf); rfl; (simp only [Nat.reduceEqDiff, Nat.reduceAdd, ↓reduceIte, xBB, stG, opA, val, opdA, opdO, plainN, omap, binA, intBinA, loadV, readA, storeV, writeA, fieldAddrA, indexAddrA, lenA, builtinA, newA, unA, packA, Value.cells, un95]; rfl); first | rfl | exact ⟨rfl, rfl, rfl⟩))
  refine loop_k (lk' := s.nx) (s0 := s) (fun m f t => ∃ k : Nat, k + m = l.length ∧ f.get 8 = some (.int .i64 k) ∧
    ∃ o v xs, f.get 3 = some v ∧ Own t 3 1 o v (xs.map encI) ∧ newer s o ∧ xs.length ≤ k ∧ xs ++ listedL k (l.drop k) = listedL 0 l) l.length (Nat.le_refl _) (Nat.le_refl _) ?_ (Ab.refl _ _) ?_
  · exact ⟨0, by omega, by simp only [Nat.reduceEqDiff, T.get_put, ↓reduceIte]; rfl, none, .slice none 0 0, [], by simp only [Nat.reduceEqDiff, T.get_put, ↓reduceIte], ⟨rfl, rfl⟩, fun _ h => (by cases h), Nat.le_refl _, rfl⟩
  · rintro m f t ⟨k, hk, h8, o, v, xs, h3, hown, hnew, hxl, hxs⟩ hA hF
    (have k6 := hF 6 (by rfl); simp only [Nat.reduceEqDiff, T.get_put, ↓reduceIte] at k6; have k7 := hF 7 (by rfl); simp only [Nat.reduceEqDiff, T.get_put, ↓reduceIte] at k7)
    by_cases hlt : (k : Int) < ((l.map encB).length : Int)
    · have hlt' : k < l.length := by simp at hlt; omega
      have hs2 := hs.keep hA
      obtain ⟨id, off, wr, e, cs, rfl, g1, g2, g3, g4⟩ := hs2.at (i := k) (x := encB l[k]) (by simp [hlt'])
      have hb : (0 : Int) ≤ (k : Int) ∧ (k : Int) < ((l.map encB).length : Int) := ⟨by omega, hlt⟩
      simp only [encB] at g3
      have hw : IntKind.i64.wrap ((k : Int) + 1) = ((k + 1 : Nat) : Int) := by rw [IntWalk.i64_in _ (by omega)]; rfl
      have hd : l.drop k = l[k] :: l.drop (k + 1) := List.drop_eq_getElem_cons hlt'
      by_cases hp : l[k] = true
      · repeat (first
  | with_reducible first | apply ops_end | apply d_end | apply k_seq | apply k_seq_ret | apply k_seq_exit | apply k_block | apply k_block_ret | apply k_block_here | apply c_seq | apply c_block | apply c_region | apply c_skip | apply c_ret | apply c_exit | apply c_loop | apply k_loop_exit | apply k_loop_ret | apply if_t | apply if_f
  | (with_reducible apply k_block_on
     · decide)
  | ((with_reducible first | apply xOp | apply xDr | apply xIf); rfl; (simp only [Nat.reduceEqDiff, Nat.reduceAdd, ↓reduceIte, xBB, stG, opA, val, opdA, opdO, plainN, omap, binA, intBinA, loadV, readA, storeV, writeA, fieldAddrA, indexAddrA, lenA, builtinA, newA, unA, packA, Value.cells, h8, k7, k6, hlt, un95, sz4, ty4, hb, g1, g3, hp, h3, buildSliceA, el35, sz3, zr3, zerosL, fillA, putL]; rfl); first | rfl | exact ⟨rfl, rfl, rfl⟩))
        ((with_reducible first | apply ops_opt | apply xPd); (first | rfl | exact ⟨rfl, rfl⟩); (simp only [Nat.reduceEqDiff, Nat.reduceAdd, ↓reduceIte, xBB, opA, val, opdA, opdO, plainN, omap, binA, intBinA, loadV, readA, storeV, writeA, fieldAddrA, indexAddrA, lenA, builtinA, newA, unA, packA, Value.cells, un35, h3]; rfl))
        have hown2 : Own { hp := t.hp.put t.nx (some (.cells true 3 [.int .i64 k])), nx := t.nx + 1 } 3 1 o v (xs.map encI) :=
          hown.same (Nat.le_succ _) fun id h => T.get_put_ne _ _ _ (by have := hown.lt h; omega)
        refine opt_ex (app_one (lk := s.nx) (y := [.int .i64 k]) el35 sz3 by3 zr3 rfl (by decide) hown2 hnew (T.get_put_eq _ _ _) rfl rfl (by simp; omega)) fun q hq => ?_
        obtain ⟨v', s1⟩ := q
        obtain ⟨q1, q2, o', q3, q4⟩ := hq
        refine opt_of rfl ?_
        repeat (first
  | with_reducible first | apply ops_end | apply d_end | apply k_seq | apply k_seq_ret | apply k_seq_exit | apply k_block | apply k_block_ret | apply k_block_here | apply c_seq | apply c_block | apply c_region | apply c_skip | apply c_ret | apply c_exit | apply c_loop | apply k_loop_exit | apply k_loop_ret | apply if_t | apply if_f
  | (with_reducible apply k_block_on
     · decide)
  | ((with_reducible first | apply xOp | apply xDr | apply xIf); rfl; (simp only [Nat.reduceEqDiff, Nat.reduceAdd, ↓reduceIte, xBB, stG, opA, val, opdA, opdO, plainN, omap, binA, intBinA, loadV, readA, storeV, writeA, fieldAddrA, indexAddrA, lenA, builtinA, newA, unA, packA, Value.cells, hw, h8]; rfl); first | rfl | exact ⟨rfl, rfl, rfl⟩))
        intro _ _
        refine k_loop_next (m' := m - 1) (by omega) ⟨k + 1, by omega, by simp only [Nat.reduceEqDiff, T.get_put, ↓reduceIte], o', v', xs ++ [(k : Int)], by simp only [Nat.reduceEqDiff, T.get_put, ↓reduceIte], ?_, ?_, by simp; omega, ?_⟩
        · rw [List.map_append]; exact q3
        · intro id h
          rcases q4 with rfl | rfl
          · exact hnew id h
          · cases h; have := hA.nx; show s.nx ≤ t.nx + 1; omega
        · rw [← hxs, hd, listedL, hp, if_pos rfl, List.append_assoc]; rfl
      · simp only [Bool.not_eq_true] at hp
        repeat (first
  | with_reducible first | apply ops_end | apply d_end | apply k_seq | apply k_seq_ret | apply k_seq_exit | apply k_block | apply k_block_ret | apply k_block_here | apply c_seq | apply c_block | apply c_region | apply c_skip | apply c_ret | apply c_exit | apply c_loop | apply k_loop_exit | apply k_loop_ret | apply if_t | apply if_f
  | (with_reducible apply k_block_on
     · decide)
  | ((with_reducible first | apply xOp | apply xDr | apply xIf); rfl; (simp only [Nat.reduceEqDiff, Nat.reduceAdd, ↓reduceIte, xBB, stG, opA, val, opdA, opdO, plainN, omap, binA, intBinA, loadV, readA, storeV, writeA, fieldAddrA, indexAddrA, lenA, builtinA, newA, unA, packA, Value.cells, h8, k7, k6, hlt, un95, sz4, ty4, hb, g1, g3, hp, hw]; rfl); first | rfl | exact ⟨rfl, rfl, rfl⟩))
        intro _ _
        refine k_loop_next (m' := m - 1) (by omega) ⟨k + 1, by omega, by simp only [Nat.reduceEqDiff, T.get_put, ↓reduceIte], o, v, xs, by simp only [Nat.reduceEqDiff, T.get_put, ↓reduceIte, h3], hown, hnew, by omega, ?_⟩
        rw [← hxs, hd, listedL, hp, if_neg (by simp)]; rfl
    · repeat (first
  | with_reducible first | apply ops_end | apply d_end | apply k_seq | apply k_seq_ret | apply k_seq_exit | apply k_block | apply k_block_ret | apply k_block_here | apply c_seq | apply c_block | apply c_region | apply c_skip | apply c_ret | apply c_exit | apply c_loop | apply k_loop_exit | apply k_loop_ret | apply if_t | apply if_f
  | (with_reducible apply k_block_on
     · decide)
  | ((with_reducible first | apply xOp | apply xDr | apply xIf); rfl; (simp only [Nat.reduceEqDiff, Nat.reduceAdd, ↓reduceIte, xBB, stG, opA, val, opdA, opdO, plainN, omap, binA, intBinA, loadV, readA, storeV, writeA, fieldAddrA, indexAddrA, lenA, builtinA, newA, unA, packA, Value.cells, h8, k7, hlt]; rfl); first | rfl | exact ⟨rfl, rfl, rfl⟩))
      intro _ _
      repeat (first
  | with_reducible first | apply ops_end | apply d_end | apply k_seq | apply k_seq_ret | apply k_seq_exit | apply k_block | apply k_block_ret | apply k_block_here | apply c_seq | apply c_block | apply c_region | apply c_skip | apply c_ret | apply c_exit | apply c_loop | apply k_loop_exit | apply k_loop_ret | apply if_t | apply if_f
  | (with_reducible apply k_block_on
     · decide)
  | ((with_reducible first | apply xOp | apply xDr | apply xIf); rfl; (simp only [Nat.reduceEqDiff, Nat.reduceAdd, ↓reduceIte, xBB, stG, opA, val, opdA, opdO, plainN, omap, binA, intBinA, loadV, readA, storeV, writeA, fieldAddrA, indexAddrA, lenA, builtinA, newA, unA, packA, Value.cells, h3]; rfl); first | rfl | exact ⟨rfl, rfl, rfl⟩))
      intro _
      ((with_reducible first | apply ret_i | apply ret_n); (simp only [Nat.reduceEqDiff, Nat.reduceAdd, ↓reduceIte, xBB, resA, opdA, opdO, plainN, omap, val, loadV, readA, packA]; rfl))
      refine ⟨o, ?_, hnew⟩
      have : l.drop k = [] := by rw [List.drop_eq_nil_iff]; simp at hlt; omega
      rw [this, listedL, List.append_nil] at hxs
      rw [← hxs]; exact hown
end Go.Ev
